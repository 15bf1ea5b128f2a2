/-
  The walk of the lexer's token: signs, moves, numbers, words. Condition: lengths.
-/
import Derived.Test.YtfoehfehnmhhmaaGreatDoorW32
namespace Go.Proofs.YtfoehfehnmhhmaaGreatDoor
open Go.RowKit Go.Shelf Go.Maps

/-- What stands here is no blank, no remark, nothing that is passed over. -/
structure PlainIn (S : Wd.Bytes) (c : UInt8) : Prop where
  is0 : ∀ h, (⟨S.toArray⟩ : ByteArray)[0]'h = c
  l1 : 1 ≤ S.length
  ls : S.length < 1073741824
  n32 : ¬ (c.toNat : Int) = 32
  n9 : ¬ (c.toNat : Int) = 9
  n35 : ¬ (c.toNat : Int) = 35
  p1 : Wd.pre [92, 10] S = false
  p2 : Wd.pre [59, 59] S = false
  p3 : Wd.pre [60, 60] S = false

set_option maxHeartbeats 6400000 in
set_option maxRecDepth 100000 in
theorem token_sign (w : World) (b : Nat) (c : UInt8) (S : Wd.Bytes) (l : List (Nat × Wd.Bytes)) (v : Value) (h : LxAt w b S l v) (hl : l.length ≤ 1073741824) (hp : PlainIn S c) (t : Wd.Bytes) (ht1 : Wd.takes S Wd.signs = some t) :
    Calls Tryz.prog 32 #[.pointer (some ⟨b, 0, none⟩)] w fun e w' => e = .returned (.tuple #[]) ∧ ∃ v', LxIs w w' b (S.drop t.length) (l ++ [(2, t)]) v v' := by
  have c0 : w.cell? ⟨b, 0, none⟩ = some (.string ⟨S.toArray⟩) := h.blk.cell 0 rfl
  have hcp := cutPrefix_any S [92, 10] w
  rw [hp.p1, if_neg (by decide)] at hcp
  have hh1 := hasPrefix_any S [59, 59] w
  have hh2 := hasPrefix_any S [60, 60] w
  rw [hp.p2] at hh1
  rw [hp.p3] at hh2
  have is0 := hp.is0
  have hl1 := hp.l1
  have hl2 : (1 : Int) ≤ (S.length : Int) := by omega
  have n32 := hp.n32
  have n9 := hp.n9
  have n35 := hp.n35
  have hbO : Below w.heap.size w (w.alloc signsO) := (Below.refl _ _).alloc (Nat.le_refl _) _
  have hta := take_any (w.alloc signsO) b S l v (.slice (some ⟨w.heap.size, 0, none⟩) 5 5) 2 Wd.signs (h.below hbO) (strs_new w Wd.signs (by decide) (by decide)) hl
  rw [ht1] at hta
  unfold TakePost at hta
  have H := Lib.hid h
  have HBO := Lib.hid hbO
  clear h hbO hp ht1
  go_enter Tryz.func32, Tryz.ntmps32
  go_wp2_with fail
  refine hcp.mono ?_
  rintro e w1 ⟨rfl, rfl⟩
  clear hcp
  go_wp2_with fail
  refine hh1.mono ?_
  rintro e w1 ⟨rfl, rfl⟩
  clear hh1
  go_wp2_with fail
  refine hh2.mono ?_
  rintro e w1 ⟨rfl, rfl⟩
  clear hh2
  go_wp2_with fail
  refine hta.mono ?_
  rintro e w2 ⟨rfl, v2, hx⟩
  have HX := Lib.hid ((H.out.is.below HBO.out).trans hx)
  clear hx hta
  go_wp2_with fail
  refine bodyPost_end (results_none rfl _ _ _) rfl ?_
  exact ⟨rfl, v2, HX.out⟩

set_option maxHeartbeats 6400000 in
set_option maxRecDepth 100000 in
theorem token_move (w : World) (b : Nat) (c : UInt8) (S : Wd.Bytes) (l : List (Nat × Wd.Bytes)) (v : Value) (h : LxAt w b S l v) (hl : l.length ≤ 1073741824) (hp : PlainIn S c) (t : Wd.Bytes) (ht1 : Wd.takes S Wd.signs = none) (ht2 : Wd.takes S Wd.moves = some t) :
    Calls Tryz.prog 32 #[.pointer (some ⟨b, 0, none⟩)] w fun e w' => e = .returned (.tuple #[]) ∧ ∃ v', LxIs w w' b (S.drop t.length) (l ++ [(3, t)]) v v' := by
  have c0 : w.cell? ⟨b, 0, none⟩ = some (.string ⟨S.toArray⟩) := h.blk.cell 0 rfl
  have hcp := cutPrefix_any S [92, 10] w
  rw [hp.p1, if_neg (by decide)] at hcp
  have hh1 := hasPrefix_any S [59, 59] w
  have hh2 := hasPrefix_any S [60, 60] w
  rw [hp.p2] at hh1
  rw [hp.p3] at hh2
  have is0 := hp.is0
  have hl1 := hp.l1
  have hl2 : (1 : Int) ≤ (S.length : Int) := by omega
  have n32 := hp.n32
  have n9 := hp.n9
  have n35 := hp.n35
  have hbO : Below w.heap.size w (w.alloc signsO) := (Below.refl _ _).alloc (Nat.le_refl _) _
  have hta := take_any (w.alloc signsO) b S l v (.slice (some ⟨w.heap.size, 0, none⟩) 5 5) 2 Wd.signs (h.below hbO) (strs_new w Wd.signs (by decide) (by decide)) hl
  rw [ht1] at hta
  unfold TakePost at hta
  have hbO2 : Below w.heap.size w ((w.alloc signsO).alloc movesO) := hbO.alloc (by simp) _
  have hta2 := take_any ((w.alloc signsO).alloc movesO) b S l v (.slice (some ⟨w.heap.size + 1, 0, none⟩) 5 5) 3 Wd.moves (h.below hbO2) (by
    have := strs_new (w.alloc signsO) Wd.moves (by decide) (by decide)
    rw [show (w.alloc signsO).heap.size = w.heap.size + 1 by simp] at this
    exact this) hl
  rw [ht2] at hta2
  unfold TakePost at hta2
  have H := Lib.hid h
  have HBO := Lib.hid hbO2
  clear h hbO hbO2 hp ht1 ht2
  go_enter Tryz.func32, Tryz.ntmps32
  go_wp2_with fail
  refine hcp.mono ?_
  rintro e w1 ⟨rfl, rfl⟩
  clear hcp
  go_wp2_with fail
  refine hh1.mono ?_
  rintro e w1 ⟨rfl, rfl⟩
  clear hh1
  go_wp2_with fail
  refine hh2.mono ?_
  rintro e w1 ⟨rfl, rfl⟩
  clear hh2
  go_wp2_with fail
  refine hta.mono ?_
  rintro e w2 ⟨rfl, rfl⟩
  clear hta
  go_wp2_with fail
  refine hta2.mono ?_
  rintro e w2 ⟨rfl, v2, hx⟩
  have HX := Lib.hid ((H.out.is.below HBO.out).trans hx)
  clear hx hta2
  go_wp2_with fail
  refine bodyPost_end (results_none rfl _ _ _) rfl ?_
  exact ⟨rfl, v2, HX.out⟩

set_option maxHeartbeats 6400000 in
set_option maxRecDepth 100000 in
theorem token_number (w : World) (b : Nat) (c : UInt8) (S : Wd.Bytes) (l : List (Nat × Wd.Bytes)) (v : Value) (h : LxAt w b S l v) (hl : l.length ≤ 1073741824) (hp : PlainIn S c) (d : UInt8) (ht1 : Wd.takes S Wd.signs = none) (ht2 : Wd.takes S Wd.moves = none) (h48 : 48 ≤ c.toNat) (h50 : c.toNat ≤ 50) (hd : d = 60 ∨ d = 62) (is1 : ∀ h, (⟨S.toArray⟩ : ByteArray)[1]'h = d) (hl3 : 2 ≤ S.length) (hS : S.take 1 = [c]) :
    Calls Tryz.prog 32 #[.pointer (some ⟨b, 0, none⟩)] w fun e w' => e = .returned (.tuple #[]) ∧ ∃ v', LxIs w w' b (S.drop 1) (l ++ [(4, [c])]) v v' := by
  have c0 : w.cell? ⟨b, 0, none⟩ = some (.string ⟨S.toArray⟩) := h.blk.cell 0 rfl
  have hcp := cutPrefix_any S [92, 10] w
  rw [hp.p1, if_neg (by decide)] at hcp
  have hh1 := hasPrefix_any S [59, 59] w
  have hh2 := hasPrefix_any S [60, 60] w
  rw [hp.p2] at hh1
  rw [hp.p3] at hh2
  have is0 := hp.is0
  have hl1 := hp.l1
  have hl2 : (1 : Int) ≤ (S.length : Int) := by omega
  have n32 := hp.n32
  have n9 := hp.n9
  have n35 := hp.n35
  have hbO : Below w.heap.size w (w.alloc signsO) := (Below.refl _ _).alloc (Nat.le_refl _) _
  have hta := take_any (w.alloc signsO) b S l v (.slice (some ⟨w.heap.size, 0, none⟩) 5 5) 2 Wd.signs (h.below hbO) (strs_new w Wd.signs (by decide) (by decide)) hl
  rw [ht1] at hta
  unfold TakePost at hta
  have hbO2 : Below w.heap.size w ((w.alloc signsO).alloc movesO) := hbO.alloc (by simp) _
  have hta2 := take_any ((w.alloc signsO).alloc movesO) b S l v (.slice (some ⟨w.heap.size + 1, 0, none⟩) 5 5) 3 Wd.moves (h.below hbO2) (by
    have := strs_new (w.alloc signsO) Wd.moves (by decide) (by decide)
    rw [show (w.alloc signsO).heap.size = w.heap.size + 1 by simp] at this
    exact this) hl
  rw [ht2] at hta2
  unfold TakePost at hta2
  have hbO3 : Below w.heap.size w (((w.alloc signsO).alloc movesO).alloc (.cells #[.string ⟨#[c]⟩] 9)) := hbO2.alloc (by simp; omega) _
  have ht3 : Wd.takes S [[c]] = some [c] := by
    rw [Wd.takes, if_pos]
    rw [← hS]
    exact List.isPrefixOf_iff_prefix.2 (List.take_prefix _ _)
  have hta3 := take_any (((w.alloc signsO).alloc movesO).alloc (.cells #[.string ⟨#[c]⟩] 9)) b S l v (.slice (some ⟨w.heap.size + 1 + 1, 0, none⟩) 1 1) 4 [[c]] (h.below hbO3) (by
    have := strs_new ((w.alloc signsO).alloc movesO) [[c]] (by simp) (by simp)
    rw [show ((w.alloc signsO).alloc movesO).heap.size = w.heap.size + 1 + 1 by simp] at this
    exact this) hl
  rw [ht3] at hta3
  unfold TakePost at hta3
  have ext : (⟨S.toArray⟩ : ByteArray).extract 0 1 = ⟨#[c]⟩ := by rw [extr_take S 1, hS]
  have k48 : (48 : Int) ≤ (c.toNat : Int) := by omega
  have k50 : (c.toNat : Int) ≤ 50 := by omega
  have l2 : (1 : Int) < (S.length : Int) := by omega
  have l3 : 1 < S.length := by omega
  have d0 : ((w.alloc signsO).alloc movesO).cell? ⟨b, 0, none⟩ = some (.string ⟨S.toArray⟩) := (h.below hbO2).blk.cell 0 rfl
  have H := Lib.hid h
  have HBO := Lib.hid hbO3
  clear h hbO hbO2 hbO3 hp ht1 ht2 ht3 hS
  rcases hd with rfl | rfl
  all_goals
    go_enter Tryz.func32, Tryz.ntmps32
    go_wp2_with fail
    refine hcp.mono ?_
    rintro e w1 ⟨rfl, rfl⟩
    clear hcp
    go_wp2_with fail
    refine hh1.mono ?_
    rintro e w1 ⟨rfl, rfl⟩
    clear hh1
    go_wp2_with fail
    refine hh2.mono ?_
    rintro e w1 ⟨rfl, rfl⟩
    clear hh2
    go_wp2_with fail
    refine hta.mono ?_
    rintro e w2 ⟨rfl, rfl⟩
    clear hta
    go_wp2_with fail
    refine hta2.mono ?_
    rintro e w2 ⟨rfl, rfl⟩
    clear hta2
    go_wp2_with fail
    refine hta3.mono ?_
    rintro e w2 ⟨rfl, v2, hx⟩
    have HX := Lib.hid ((H.out.is.below HBO.out).trans hx)
    clear hx hta3
    go_wp2_with fail
    refine bodyPost_end (results_none rfl _ _ _) rfl ?_
    exact ⟨rfl, v2, HX.out⟩

end Go.Proofs.YtfoehfehnmhhmaaGreatDoor
