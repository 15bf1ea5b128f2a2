/-
  The walk of braced: how long a value is. Condition: lengths.
-/
import Derived.Test.YtfoehfehnmhhmaaGreatDoorW19
import Derived.Deep.RegionHeld3
namespace Go.Proofs.YtfoehfehnmhhmaaGreatDoor
open Go.RowKit Go.Shelf Go.Maps

/-- A new block lies apart from an expander. -/
theorem ExAt.apart {w : World} {b : Nat} {vv av v : Value} {x : Wd.Ex} (h : ExAt w b vv av x v) {q : Nat} (hq : w.heap.size ≤ q) : ¬ (q = b ∨ v.ownBlock = some q) := by
  rintro (rfl | e)
  · have := h.blk.lt; omega
  · have := (h.own.lt q e).2; omega

set_option maxHeartbeats 6400000 in
set_option maxRecDepth 100000 in
theorem braced_hash (w : World) (b : Nat) (vv av v : Value) (x : Wd.Ex) (r s : Wd.Bytes) (fl inq : Bool) (h : ExAt w b vv av x v) (hg : Glo w) (h8 : 8 ≤ b) (hl : x.l.length ≤ 1073741824) (hr : r.length < 1073741824)
    (hn : 0 < Wd.named r) (hnr : Wd.named r = r.length) (hv : x.value r = some (s, fl)) (hs : s.length < 256) :
    Calls Tryz.prog 59 #[.pointer (some ⟨b, 0, none⟩), .string ⟨(35 :: r).toArray⟩, .bool inq] w fun e w' => e = .returned (.tuple #[]) ∧ ∃ v', ExIs w w' b vv av (x.result (Wd.digits s.length) inq) v v' := by
  obtain ⟨O, hO⟩ : ∃ O : Obj, O = .cells #[.pointer (some ⟨b, 0, none⟩)] 44 := ⟨_, rfl⟩
  have hbO : Below w.heap.size w (w.alloc O) := (Below.refl _ _).alloc (Nat.le_refl _) _
  have hlt := h.blk.lt
  have hat1 := h.below hbO
  have hcp := cutPrefix_any (35 :: r) [35] (w.alloc O)
  rw [show Wd.pre [35] (35 :: r) = true from rfl, if_pos rfl, show (35 :: r).drop ([35] : Wd.Bytes).length = r from rfl] at hcp
  have hpar := parameter_any (w.alloc O) r hr hn
  rw [hnr] at hpar
  have hval := value_any (w.alloc O) b vv av v x r s fl hat1 (hg.below hbO (by omega)) (by simp; omega) hr hv
  have kq : (w.alloc O).cell? ⟨w.heap.size, 0, none⟩ = some (.pointer (some ⟨b, 0, none⟩)) := by rw [hO]; exact (Blk.new w _ _).cell 0 rfl
  have hre : r.isEmpty = false := by cases r with
    | nil => simp [Wd.named] at hn
    | cons a t => rfl
  have hre2 : ¬ r = [] := by rintro rfl; simp [Wd.named] at hn
  have hdl := digits_len s.length hs
  have HAT := Lib.hid h
  have HG1 := Lib.hid (hg.below hbO (by omega))
  have HAT1 := Lib.hid hat1
  have HBO := Lib.hid hbO
  have hsz1 : (w.alloc O).heap.size = w.heap.size + 1 := by simp
  have HSZ := Lib.hid hsz1
  clear hsz1 h hg hat1 hbO hv hn hnr
  subst hO
  go_enter Tryz.func59, Tryz.ntmps59
  go_wp2_with fail
  refine hcp.mono ?_
  rintro e w1 ⟨rfl, rfl⟩
  clear hcp
  go_wp2_with fail
  refine hpar.mono ?_
  rintro e w1 ⟨rfl, rfl⟩
  clear hpar
  go_wp2_with fail
  refine hval.mono ?_
  rintro e w2 ⟨rfl, hb2⟩
  have k2 : w2.cell? ⟨w.heap.size, 0, none⟩ = some (.pointer (some ⟨b, 0, none⟩)) := by rw [hb2.cell (p := ⟨w.heap.size, 0, none⟩) (by rw [HSZ.out]; exact Nat.lt_succ_self _)]; exact kq
  have k3 : w2.drew.cell? ⟨w.heap.size, 0, none⟩ = some (.pointer (some ⟨b, 0, none⟩)) := k2
  have hsz2 : w.heap.size < w2.heap.size := by have := hb2.size; rw [HSZ.out] at this; omega
  have hb3 := HBO.out.trans (hb2.mono (by rw [HSZ.out]; omega))
  have hat2 := HAT.out.below (hb3.drew)
  have hdig := digits_any s.length hs w2.drew ((HG1.out.below hb2 (by rw [HSZ.out]; omega)).below (below_drew2 _) (by omega))
  have HDIG := Lib.hid hdig
  have HAT2 := Lib.hid hat2
  have HX2 := Lib.hid (HAT.out.is.below hb3.drew)
  clear hdig hat2 hb3 hb2 hval kq
  go_wp2_with fail
  go_region_held3 (fun w' => w'.cell? ⟨w.heap.size, 0, none⟩ = some (.pointer (some ⟨b, 0, none⟩)))
    (first | go_keep | (exact K4) | (exact K5))
    ((first
      | (go_at_call 75; refine HDIG.out.mono ?_; rintro e w4 ⟨rfl, hb4⟩; have K4 : w4.cell? ⟨w.heap.size, 0, none⟩ = some (.pointer (some ⟨b, 0, none⟩)) := (by rw [hb4.cell (p := ⟨w.heap.size, 0, none⟩) hsz2]; exact k3); have HR := Lib.hid (result_any w4 b vv av v x (Wd.digits s.length) inq (HAT2.out.below hb4) (by omega) (by omega)); have HX4 := Lib.hid (HX2.out.below hb4))
      | (go_at_call 74; refine HR.out.mono ?_; rintro e w5 ⟨rfl, v5, hx5⟩; have HX5 := Lib.hid (HX4.out.trans hx5); have K5 : w5.cell? ⟨w.heap.size, 0, none⟩ = some (.pointer (some ⟨b, 0, none⟩)) := (by rw [← K4]; exact World.cell?_of_block (hx5.kept.block _ (World.block_lt_of_cell? _ _ K4) (HAT.out.apart (Nat.le_refl _)))); clear hx5)))
  go_wp2_with fail
  refine bodyPost_ret (results_none rfl _ _ _) rfl ?_
  exact ⟨rfl, _, HX5.out⟩

end Go.Proofs.YtfoehfehnmhhmaaGreatDoor
