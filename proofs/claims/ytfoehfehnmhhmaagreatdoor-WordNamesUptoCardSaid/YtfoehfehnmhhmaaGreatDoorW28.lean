/-
  The walk of Expand's own function: a field's end. Condition: lengths.
-/
import Derived.Test.YtfoehfehnmhhmaaGreatDoorW27
namespace Go.Proofs.YtfoehfehnmhhmaaGreatDoor
open Go.RowKit Go.Shelf Go.Maps

def u8V (c : UInt8) : Value := .int .u8 c.toNat
theorem info_str : (Tryz.prog.info? 9).map (fun i => (i.zero, i.size, i.bytes)) = some (some (.string ⟨#[]⟩), 1, 16) := by kernel_rfl

theorem bs_of_own {w : World} {B : Nat} {bv : Value} {cur : Wd.Bytes} (h : w.ownsRow B 5 1 bv cur.length (cur.map u8V)) : ∃ p c, bv = .slice p cur.length c ∧ Bs w p cur := by
  rcases h.2 with ⟨h1, h2⟩ | ⟨g, cap, cs, rfl, -⟩
  · refine ⟨none, 0, by rw [h2]; exact h1, ?_⟩
    intro h0; omega
  · refine ⟨_, _, rfl, fun _ => ⟨g, 0, rfl, fun i hi => ?_⟩⟩
    have := h.cellAt i (by omega)
    rw [Nat.zero_add, this]
    simp [List.getD_eq_getElem?_getD, hi, u8V]

/-- The fields that are over, the bytes of the one at hand, is there one. -/
structure FldAt (w : World) (q : Nat) (fv bv : Value) (done : List Wd.Bytes) (cur : Wd.Bytes) (there : Bool) : Prop where
  b9 : Blk w q #[fv] 23
  b10 : Blk w (q + 1) #[bv] 29
  b11 : Blk w (q + 1 + 1) #[.bool there] 4
  ownF : w.ownsRow (q + 3) 9 1 fv done.length (done.map strV)
  ownB : w.ownsRow (q + 3) 5 1 bv cur.length (cur.map u8V)
  apart : ∀ k, fv.ownBlock = some k → bv.ownBlock ≠ some k

theorem FldAt.below {w w' : World} {q : Nat} {fv bv : Value} {done : List Wd.Bytes} {cur : Wd.Bytes} {there : Bool} (h : FldAt w q fv bv done cur there) (hb : Below w.heap.size w w') : FldAt w' q fv bv done cur there :=
  ⟨h.b9.keep hb h.b9.lt, h.b10.keep hb h.b10.lt, h.b11.keep hb h.b11.lt, own_kept h.ownF (Kept.of_below (S := fun _ => False) hb) (fun _ _ h => h), own_kept h.ownB (Kept.of_below (S := fun _ => False) hb) (fun _ _ h => h), h.apart⟩

/-- Behind a field's end: the three cells stored. -/
theorem FldAt.ended {w : World} {q : Nat} {fv fv' bv : Value} {done : List Wd.Bytes} {there : Bool} (b9 : Blk w q #[fv] 23) (b10 : Blk w (q + 1) #[bv] 29) (b11 : Blk w (q + 1 + 1) #[.bool there] 4)
    (hown : w.ownsRow (q + 3) 9 1 fv' done.length (done.map strV)) :
    FldAt (((w.setCell ⟨q, 0, none⟩ fv').setCell ⟨q + 1, 0, none⟩ (.slice none 0 0)).setCell ⟨q + 1 + 1, 0, none⟩ (.bool false)) q fv' (.slice none 0 0) done [] false := by
  have hk : Kept (fun k => k < q + 3) w (((w.setCell ⟨q, 0, none⟩ fv').setCell ⟨q + 1, 0, none⟩ (.slice none 0 0)).setCell ⟨q + 1 + 1, 0, none⟩ (.bool false)) :=
    (((Kept.refl (fun k => k < q + 3) w).setCell (.inl (by omega)) 0 _).setCell (.inl (by omega)) 0 _).setCell (.inl (by omega)) 0 _
  refine ⟨?_, ?_, ?_, own_kept hown hk ?_, World.ownsRow_nil _ _ _ _, fun _ _ e => by cases e⟩
  · exact ((b9.set 0 fv').setOther (a := ⟨q + 1, 0, none⟩) (by show q ≠ q + 1; omega) _).setOther (a := ⟨q + 1 + 1, 0, none⟩) (by show q ≠ q + 1 + 1; omega) _
  · exact (((b10.setOther (a := ⟨q, 0, none⟩) (by show q + 1 ≠ q; omega) _).set 0 (.slice none 0 0))).setOther (a := ⟨q + 1 + 1, 0, none⟩) (by show q + 1 ≠ q + 1 + 1; omega) _
  · exact ((b11.setOther (a := ⟨q, 0, none⟩) (by show q + 1 + 1 ≠ q; omega) _).setOther (a := ⟨q + 1, 0, none⟩) (by show q + 1 + 1 ≠ q + 1; omega) _).set 0 (.bool false)
  · intro k hk2 hs
    have := (hown.lt k hk2).1
    omega

/-- The same, where no field was there. -/
theorem FldAt.ended0 {w : World} {q : Nat} {fv bv : Value} {done : List Wd.Bytes} {cur : Wd.Bytes} {there : Bool} (h : FldAt w q fv bv done cur there) :
    FldAt ((w.setCell ⟨q + 1, 0, none⟩ (.slice none 0 0)).setCell ⟨q + 1 + 1, 0, none⟩ (.bool false)) q fv (.slice none 0 0) done [] false := by
  have hk : Kept (fun k => k < q + 3) w ((w.setCell ⟨q + 1, 0, none⟩ (.slice none 0 0)).setCell ⟨q + 1 + 1, 0, none⟩ (.bool false)) :=
    ((Kept.refl (fun k => k < q + 3) w).setCell (.inl (by omega)) 0 _).setCell (.inl (by omega)) 0 _
  refine ⟨?_, ?_, ?_, own_kept h.ownF hk ?_, World.ownsRow_nil _ _ _ _, fun _ _ e => by cases e⟩
  · exact (h.b9.setOther (a := ⟨q + 1, 0, none⟩) (by show q ≠ q + 1; omega) _).setOther (a := ⟨q + 1 + 1, 0, none⟩) (by show q ≠ q + 1 + 1; omega) _
  · exact (h.b10.set 0 (.slice none 0 0)).setOther (a := ⟨q + 1 + 1, 0, none⟩) (by show q + 1 ≠ q + 1 + 1; omega) _
  · exact (h.b11.setOther (a := ⟨q + 1, 0, none⟩) (by show q + 1 + 1 ≠ q + 1; omega) _).set 0 (.bool false)
  · intro k hk2 hs
    have := (h.ownF.lt k hk2).1
    omega

set_option maxHeartbeats 3200000 in
set_option maxRecDepth 100000 in
theorem end_any (w : World) (q : Nat) (fv bv : Value) (done : List Wd.Bytes) (cur : Wd.Bytes) (there : Bool) (h : FldAt w q fv bv done cur there) (hd : done.length ≤ 4294967296) :
    Calls Tryz.prog 51 #[.pointer (some ⟨q + 1 + 1, 0, none⟩), .pointer (some ⟨q, 0, none⟩), .pointer (some ⟨q + 1, 0, none⟩)] w fun e w' => e = .returned (.tuple #[]) ∧
      (∃ fv', FldAt w' q fv' (.slice none 0 0) (if there = true then done ++ [cur] else done) [] false) ∧ Below q w w' := by
  obtain ⟨i0, hi0, hz0, hz1, hz2⟩ := info_parts info_str
  have k9 : w.cell? ⟨q, 0, none⟩ = some fv := h.b9.cell 0 rfl
  have k10 : w.cell? ⟨q + 1, 0, none⟩ = some bv := h.b10.cell 0 rfl
  have k11 : w.cell? ⟨q + 1 + 1, 0, none⟩ = some (.bool there) := h.b11.cell 0 rfl
  have hlt9 := h.b9.lt
  have hlt := h.b11.lt
  cases there with
  | false =>
    have f10 := h.b10.free 0
    have f11 := h.b11.free 0
    have g10 : (w.setCell ⟨q + 1, 0, none⟩ (.slice none 0 0)).cell? ⟨q + 1 + 1, 0, none⟩ = some (.bool false) := (h.b11.setOther (a := ⟨q + 1, 0, none⟩) (by show q + 1 + 1 ≠ q + 1; omega) _).cell 0 rfl
    have g11 := (h.b11.setOther (a := ⟨q + 1, 0, none⟩) (by show q + 1 + 1 ≠ q + 1; omega) (.slice none 0 0)).free 0
    have H := Lib.hid h
    clear h
    go_enter Tryz.func51, Tryz.ntmps51
    go_wp2_with fail
    refine bodyPost_end (results_none rfl _ _ _) rfl ?_
    refine ⟨rfl, ⟨fv, H.out.ended0⟩, ?_⟩
    exact ((Below.refl q w).setCell (p := ⟨q + 1, 0, none⟩) (by show q ≤ q + 1; omega) _).setCell (p := ⟨q + 1 + 1, 0, none⟩) (by show q ≤ q + 1 + 1; omega) _
  | true =>
    obtain ⟨p, c, rfl, hbs⟩ := bs_of_own h.ownB
    have hcv := run_str hbs c
    have h1 := h.ownF.alloc (.cells #[.string ⟨cur.toArray⟩] 9)
    have hcell : ∀ j u, [Value.string ⟨cur.toArray⟩][j]? = some u → (w.alloc (.cells #[.string ⟨cur.toArray⟩] 9)).cell? ((⟨w.heap.size, 0, none⟩ : Addr).add j) = some u := cell_one_new _ _ _
    have HOWN := Lib.hid h1
    have HCELL := Lib.hid hcell
    have H := Lib.hid h
    have hn9 : fv.ownBlock ≠ some q := fun e => by have := (H.out.ownF.lt q e).1; omega
    have hn10 : fv.ownBlock ≠ some (q + 1) := fun e => by have := (H.out.ownF.lt _ e).1; omega
    have hn11 : fv.ownBlock ≠ some (q + 1 + 1) := fun e => by have := (H.out.ownF.lt _ e).1; omega
    clear h h1 hcell hbs
    go_enter Tryz.func51, Tryz.ntmps51
    go_wp2_with (at_builtin; refine wpList_append_own_at _ rfl _ _ 23 rfl (q + 3) 9 i0 (.string ⟨#[]⟩) 1 16 Tryz.underlying23 hi0 hz0 hz1 hz2 rfl (by decide) _ _ _ rfl HOWN.out ⟨w.heap.size, 0, none⟩ 1 1 [.string ⟨cur.toArray⟩] (by rfl) rfl HCELL.out (by simp [Value.oneCell']) (by unfold maxLen; omega) (by omega) (by simp; omega) ?_; intro v' w5 hown' hgrow _ hv'; obtain ⟨gg2, cap2, rfl⟩ := own_slice hown'; have HK5 := Lib.hid (kept_grown ((Kept.refl _ w).alloc _) hgrow); have B9 := H.out.b9.kept HK5.out hn9; have B10 := H.out.b10.kept HK5.out hn10; have B11 := H.out.b11.kept HK5.out hn11; have j9 := B9.cell 0 (v := fv) rfl; have j10 := B10.cell 0 (v := .slice p cur.length c) rfl; have j11 := B11.cell 0 (v := .bool true) rfl; have f9 := B9.free 0; have f10 := B10.free 0; have f11 := B11.free 0; have HB9 := Lib.hid B9; have HB10 := Lib.hid B10; have HB11 := Lib.hid B11; have HOWN5 := Lib.hid hown'; clear hown' hgrow hv' B9 B10 B11)
    refine bodyPost_end (results_none rfl _ _ _) rfl ?_
    have hb5 : Below q w w5 := below_of_kept HK5.out (fun k hk => by have := (H.out.ownF.lt k hk).1; omega) (by omega)
    refine ⟨rfl, ⟨_, FldAt.ended HB9.out HB10.out HB11.out (done := done ++ [cur]) ?_⟩, ?_⟩
    · have := HOWN5.out
      rw [List.length_append, List.map_append]
      exact this
    · exact ((hb5.setCell (p := ⟨q, 0, none⟩) (Nat.le_refl _) _).setCell (p := ⟨q + 1, 0, none⟩) (by show q ≤ q + 1; omega) _).setCell (p := ⟨q + 1 + 1, 0, none⟩) (by show q ≤ q + 1 + 1; omega) _

/-- A byte more. -/
theorem FldAt.pushed {w W2 w1 : World} {q : Nat} {fv bv v' : Value} {done : List Wd.Bytes} {cur : Wd.Bytes} {there : Bool} {c : UInt8} (h : FldAt w q fv bv done cur there) (hW : Kept (fun _ => False) w W2)
    (hown : w1.ownsRow (q + 3) 5 1 v' (cur.length + 1) (cur.map u8V ++ [u8V c])) (hg : W2.grownBy w1 bv.ownBlock) (hv : v'.ownBlock = bv.ownBlock ∨ v'.ownBlock = some W2.heap.size) :
    FldAt ((w1.setCell ⟨q + 1, 0, none⟩ v').setCell ⟨q + 1 + 1, 0, none⟩ (.bool true)) q fv v' done (cur ++ [c]) true ∧ Below q w ((w1.setCell ⟨q + 1, 0, none⟩ v').setCell ⟨q + 1 + 1, 0, none⟩ (.bool true)) := by
  have hk1 : Kept (fun k => bv.ownBlock = some k) w w1 := kept_grown hW hg
  have hnb : ∀ k, bv.ownBlock = some k → q + 3 ≤ k := fun k e => (h.ownB.lt k e).1
  have hk2 : Kept (fun k => k = q + 1 ∨ k = q + 1 + 1) w1 ((w1.setCell ⟨q + 1, 0, none⟩ v').setCell ⟨q + 1 + 1, 0, none⟩ (.bool true)) := ((Kept.refl _ w1).setCell (.inl (.inl rfl)) 0 _).setCell (.inl (.inr rfl)) 0 _
  have B9 := h.b9.kept hk1 fun e => by have := hnb _ e; omega
  have B10 := h.b10.kept hk1 fun e => by have := hnb _ e; omega
  have B11 := h.b11.kept hk1 fun e => by have := hnb _ e; omega
  have hlt := h.b9.lt
  refine ⟨⟨B9.kept hk2 (by omega), ?_, ?_, ?_, ?_, ?_⟩, ?_⟩
  · exact (B10.set 0 v').setOther (a := ⟨q + 1 + 1, 0, none⟩) (by show q + 1 ≠ q + 1 + 1; omega) _
  · exact (B11.setOther (a := ⟨q + 1, 0, none⟩) (by show q + 1 + 1 ≠ q + 1; omega) _).set 0 (.bool true)
  · refine own_kept (own_kept h.ownF hk1 fun k e e2 => h.apart k e e2) hk2 fun k e hs => ?_
    have := (h.ownF.lt k e).1; omega
  · have h1 := own_kept hown hk2 fun k e hs => by have := (hown.lt k e).1; omega
    rw [List.length_append, List.map_append]
    exact h1
  · intro k e e2
    rcases hv with hv | hv
    · rw [hv] at e2; exact h.apart k e e2
    · rw [hv] at e2
      have h1 : W2.heap.size = k := by injection e2
      have h2 := (h.ownF.lt k e).2
      have := hW.size
      omega
  · refine (below_of_kept hk1 (fun k e => by have := hnb k e; omega) (by omega)).trans (below_of_kept hk2 (fun k hs => by omega) ?_)
    have := hk1.size; omega

/-- A quote stood here. -/
theorem FldAt.marked {w : World} {q : Nat} {fv bv : Value} {done : List Wd.Bytes} {cur : Wd.Bytes} {there : Bool} (h : FldAt w q fv bv done cur there) :
    FldAt (w.setCell ⟨q + 1 + 1, 0, none⟩ (.bool true)) q fv bv done cur true ∧ Below q w (w.setCell ⟨q + 1 + 1, 0, none⟩ (.bool true)) := by
  have hk2 : Kept (fun k => k = q + 1 + 1) w (w.setCell ⟨q + 1 + 1, 0, none⟩ (.bool true)) := (Kept.refl (fun k => k = q + 1 + 1) w).setCell (.inl rfl) 0 _
  refine ⟨⟨h.b9.kept hk2 (by omega), h.b10.kept hk2 (by omega), h.b11.set 0 _, own_kept h.ownF hk2 fun k e hs => ?_, own_kept h.ownB hk2 fun k e hs => ?_, h.apart⟩, (Below.refl q w).setCell (p := ⟨q + 1 + 1, 0, none⟩) (by show q ≤ q + 1 + 1; omega) _⟩
  · have := (h.ownF.lt k e).1; omega
  · have := (h.ownB.lt k e).1; omega

end Go.Proofs.YtfoehfehnmhhmaaGreatDoor
