/-
  The walk of the lexer's token. Condition: lengths.
-/
import Derived.Test.YtfoehfehnmhhmaaGreatDoorW31
namespace Go.Proofs.YtfoehfehnmhhmaaGreatDoor
open Go.RowKit Go.Shelf Go.Maps

def signsO : Obj := .cells #[.string ⟨#[38, 38]⟩, .string ⟨#[124, 124]⟩, .string ⟨#[59]⟩, .string ⟨#[124]⟩, .string ⟨#[10]⟩] 9
def movesO : Obj := .cells #[.string ⟨#[62, 62]⟩, .string ⟨#[62, 38]⟩, .string ⟨#[60, 38]⟩, .string ⟨#[62]⟩, .string ⟨#[60]⟩] 9
theorem strs_new (w : World) (l : List Wd.Bytes) (hl : l.length < 1073741824) (he : ∀ s ∈ l, s.length < 1073741824) : StrsAt (w.alloc (.cells (l.map strV).toArray 9)) (w.alloc (.cells (l.map strV).toArray 9)).heap.size (.slice (some ⟨w.heap.size, 0, none⟩) l.length l.length) l := by
  refine ⟨hl, he, .inr ⟨w.heap.size, 0, l.length, rfl, Nat.le_refl _, by simp, fun i hi => ?_⟩⟩
  rw [Nat.zero_add]
  refine (Blk.new w _ _).cell i ?_
  simp [List.getD_eq_getElem?_getD, hi, strV]

/-- What is known of a text's first byte. -/
structure TokIn (s : Wd.Bytes) (c : UInt8) : Prop where
  is0 : ∀ h, (⟨s.toArray⟩ : ByteArray)[0]'h = c
  l1 : 1 ≤ s.length

set_option maxHeartbeats 6400000 in
set_option maxRecDepth 100000 in
theorem token_blank (w : World) (b : Nat) (c : UInt8) (r : Wd.Bytes) (l : List (Nat × Wd.Bytes)) (v : Value) (h : LxAt w b (c :: r) l v) (hs : (c :: r).length < 1073741824) (hc : c = 32 ∨ c = 9) :
    Calls Tryz.prog 32 #[.pointer (some ⟨b, 0, none⟩)] w fun e w' => e = .returned (.tuple #[]) ∧ LxIs w w' b r l v v := by
  have c0 : w.cell? ⟨b, 0, none⟩ = some (.string ⟨(c :: r).toArray⟩) := h.blk.cell 0 rfl
  have f0 := h.blk.free 0
  have hcp := cutPrefix_any (c :: r) [92, 10] w
  rw [show Wd.pre [92, 10] (c :: r) = false by rcases hc with rfl | rfl <;> rfl, if_neg (by decide)] at hcp
  have is0 : ∀ h, (⟨(c :: r).toArray⟩ : ByteArray)[0]'h = c := fun _ => rfl
  have exd : (⟨(c :: r).toArray⟩ : ByteArray).extract 1 (c :: r).length = ⟨r.toArray⟩ := extract_from (c :: r) 1
  have hl1 : 1 ≤ (c :: r).length := by simp
  have hl2 : (1 : Int) ≤ ((c :: r).length : Int) := by omega
  have H := Lib.hid h
  clear h
  generalize (c :: r) = S at *
  rcases hc with rfl | rfl
  all_goals
    go_enter Tryz.func32, Tryz.ntmps32
    go_wp2_with fail
    refine hcp.mono ?_
    rintro e w1 ⟨rfl, rfl⟩
    clear hcp
    go_wp2_with fail
    refine bodyPost_end (results_none rfl _ _ _) rfl ?_
    exact ⟨rfl, H.out.text r⟩

set_option maxHeartbeats 6400000 in
set_option maxRecDepth 100000 in
theorem token_remark (w : World) (b : Nat) (r : Wd.Bytes) (l : List (Nat × Wd.Bytes)) (v : Value) (h : LxAt w b (35 :: r) l v) (hs : (35 :: r).length < 1073741824) (hi : Wd.idx 10 (35 :: r) = none) :
    Calls Tryz.prog 32 #[.pointer (some ⟨b, 0, none⟩)] w fun e w' => e = .returned (.tuple #[]) ∧ LxIs w w' b [] l v v := by
  have c0 : w.cell? ⟨b, 0, none⟩ = some (.string ⟨(35 :: r).toArray⟩) := h.blk.cell 0 rfl
  have f0 := h.blk.free 0
  have hcp := cutPrefix_any (35 :: r) [92, 10] w
  rw [show Wd.pre [92, 10] (35 :: r) = false from rfl, if_neg (by decide)] at hcp
  have hix := indexByte_any (35 :: r) 10 w
  rw [hi] at hix
  have is0 : ∀ h, (⟨(35 :: r).toArray⟩ : ByteArray)[0]'h = 35 := fun _ => rfl
  have exd : (⟨(35 :: r).toArray⟩ : ByteArray).extract (35 :: r).length (35 :: r).length = ⟨#[]⟩ := by
    rw [extract_from (35 :: r) (35 :: r).length, List.drop_length]
  have hl1 : 1 ≤ (35 :: r).length := by simp
  have hl2 : (1 : Int) ≤ ((35 :: r).length : Int) := by omega
  have H := Lib.hid h
  clear h hi
  generalize (35 :: r) = S at *
  go_enter Tryz.func32, Tryz.ntmps32
  go_wp2_with fail
  refine hcp.mono ?_
  rintro e w1 ⟨rfl, rfl⟩
  clear hcp
  go_wp2_with fail
  refine hix.mono ?_
  rintro e w1 ⟨rfl, rfl⟩
  clear hix
  go_wp2_with fail
  refine bodyPost_end (results_none rfl _ _ _) rfl ?_
  exact ⟨rfl, H.out.text []⟩

end Go.Proofs.YtfoehfehnmhhmaaGreatDoor
