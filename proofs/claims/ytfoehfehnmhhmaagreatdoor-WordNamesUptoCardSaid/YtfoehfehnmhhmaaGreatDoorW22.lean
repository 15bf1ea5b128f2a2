/-
  The walk of braced: a word in place of what is not set. Condition: lengths.
-/
import Derived.Test.YtfoehfehnmhhmaaGreatDoorW21
namespace Go.Proofs.YtfoehfehnmhhmaaGreatDoor
open Go.RowKit Go.Shelf Go.Maps

set_option maxHeartbeats 6400000 in
set_option maxRecDepth 100000 in
/-- What braced's own function tells. -/
theorem word_any (f : Nat) (hI : InnerC f) (w : World) (b q q2 : Nat) (vv av v : Value) (x : Wd.Ex) (t : Wd.Bytes) (c : UInt8) (l : List Wd.Un) (h : ExAt w b vv av x v) (hg : Glo w) (h8 : 8 ≤ b) (ht : t.length < 1073741824)
    (kq : w.cell? ⟨q, 0, none⟩ = some (.pointer (some ⟨b, 0, none⟩))) (kq2 : w.cell? ⟨q2, 0, none⟩ = some (.string ⟨(c :: t).toArray⟩)) (hq : ¬ (q = b ∨ v.ownBlock = some q)) (hq2 : ¬ (q2 = b ∨ v.ownBlock = some q2)) (hin : Wd.inner f x t = some l) :
    Calls Tryz.prog 77 #[.pointer (some ⟨q, 0, none⟩), .pointer (some ⟨q2, 0, none⟩)] w fun e w' => e = .returned (.string ⟨(Wd.joined l).toArray⟩) ∧ ExIs w w' b vv av x v v := by
  have hlt := h.blk.lt
  have hb := below_drew2 w
  have hcall := hI w.drew b vv av v x t l (h.below hb) (hg.below hb (by omega)) h8 ht hin
  have hll := inner_len hin
  have HC := Lib.hid hcall
  have HX := Lib.hid (h.is.below hb)
  have HQ := Lib.hid hq
  have HQ2 := Lib.hid hq2
  have k1 : w.drew.cell? ⟨q, 0, none⟩ = some (.pointer (some ⟨b, 0, none⟩)) := kq
  have k2 : w.drew.cell? ⟨q2, 0, none⟩ = some (.string ⟨(c :: t).toArray⟩) := kq2
  have ext : (⟨(c :: t).toArray⟩ : ByteArray).extract 1 (c :: t).length = ⟨t.toArray⟩ := extract_drop (c :: t) 1
  have ext' : (⟨(c :: t).toArray⟩ : ByteArray).extract 1 (t.length + 1) = ⟨t.toArray⟩ := extract_drop (c :: t) 1
  have hct : (c :: t).length = t.length + 1 := by simp
  have hc1 : (1 : Int) ≤ ((c :: t).length : Int) := by simp; omega
  have hc2 : 1 ≤ (c :: t).length := by simp
  have hc3 : (1 : Int) ≤ (t.length : Int) + 1 := by omega
  clear hcall hin hg h hb hq hq2
  go_enter Tryz.func77, Tryz.ntmps77
  go_wp2_with fail
  go_region_held3 (fun w' => w'.cell? ⟨q, 0, none⟩ = some (.pointer (some ⟨b, 0, none⟩)) ∧ w'.cell? ⟨q2, 0, none⟩ = some (.string ⟨(c :: t).toArray⟩))
    (first | go_keep | (exact ⟨K4, J4⟩) | (exact ⟨K5, J5⟩))
    ((first
      | (go_at_call 78; refine HC.out.mono ?_; rintro e w4 ⟨v2, rfl, hown, hx4⟩; have K4 : w4.cell? ⟨q, 0, none⟩ = some (.pointer (some ⟨b, 0, none⟩)) := (by rw [← k1]; exact World.cell?_of_block (hx4.kept.block _ (World.block_lt_of_cell? _ _ k1) HQ.out)); have J4 : w4.cell? ⟨q2, 0, none⟩ = some (.string ⟨(c :: t).toArray⟩) := (by rw [← k2]; exact World.cell?_of_block (hx4.kept.block _ (World.block_lt_of_cell? _ _ k2) HQ2.out)); have HJ := Lib.hid (joined_any _ v2 l w4 hown (by omega)); have HX4 := Lib.hid (HX.out.trans hx4); clear hx4 hown)
      | (go_at_call 22; refine HJ.out.mono ?_; rintro e w5 ⟨rfl, hb5⟩; have HX5 := Lib.hid (HX4.out.below hb5); have K5 : w5.cell? ⟨q, 0, none⟩ = some (.pointer (some ⟨b, 0, none⟩)) := (by rw [← K4]; exact World.cell?_of_block (hb5.block _ (World.block_lt_of_cell? _ _ K4))); have J5 : w5.cell? ⟨q2, 0, none⟩ = some (.string ⟨(c :: t).toArray⟩) := (by rw [← J4]; exact World.cell?_of_block (hb5.block _ (World.block_lt_of_cell? _ _ J4))); clear hb5)))
  go_wp2_with fail
  go_ret
  exact ⟨rfl, HX5.out⟩

set_option maxHeartbeats 6400000 in
set_option maxRecDepth 100000 in
theorem braced_minus (f : Nat) (hI : InnerC f) (w : World) (b : Nat) (vv av v : Value) (x : Wd.Ex) (s t : Wd.Bytes) (l : List Wd.Un) (inq : Bool) (h : ExAt w b vv av x v) (hg : Glo w) (h8 : 8 ≤ b) (hl : x.l.length ≤ 1073741824) (hs : s.length < 1073741824)
    (hn : 0 < Wd.named s) (hop : s.drop (Wd.named s) = 58 :: 45 :: t) (hv : Wd.get x.vars (s.take (Wd.named s)) = none) (hin : Wd.inner f x t = some l) :
    Calls Tryz.prog 59 #[.pointer (some ⟨b, 0, none⟩), .string ⟨s.toArray⟩, .bool inq] w fun e w' => e = .returned (.tuple #[]) ∧ ∃ v', ExIs w w' b vv av (x.result (Wd.joined l) inq) v v' := by
  have hmf : ∀ (fn : Fn) (first cap : Array Value) (w : World), (Instr.makeFunc fn first cap).run Tryz.prog w = .ok (.func fn first cap) w := fun _ _ _ _ => rfl
  obtain ⟨O, hO⟩ : ∃ O : Obj, O = .cells #[.pointer (some ⟨b, 0, none⟩)] 44 := ⟨_, rfl⟩
  have hbO : Below w.heap.size w (w.alloc O) := (Below.refl _ _).alloc (Nat.le_refl _) _
  have hlt := h.blk.lt
  have hat1 := h.below hbO
  have hcp := cutPrefix_any s [35] (w.alloc O)
  rw [named_not35 hn, if_neg (by decide)] at hcp
  have hcp2 := cutPrefix_any (58 :: 45 :: t) [58]
  rw [show Wd.pre [58] (58 :: 45 :: t) = true from rfl, if_pos rfl, show (58 :: 45 :: t).drop ([58] : Wd.Bytes).length = 45 :: t from rfl] at hcp2
  have hpar := parameter_any (w.alloc O) s hs hn
  have hg1 := hg.below hbO (by omega)
  have hxv : x.value (s.take (Wd.named s)) = some ([], false) := by
    rw [Ex_value_named (named_take hn)]
    unfold getV
    rw [hv]
  have hval := value_any (w.alloc O).drew b vv av v x (s.take (Wd.named s)) [] false (hat1.below (below_drew2 _)) (hg1.below (below_drew2 _) (by simp; omega)) (by simp; omega) (by rw [List.length_take]; omega) hxv
  have kq : (w.alloc O).drew.cell? ⟨w.heap.size, 0, none⟩ = some (.pointer (some ⟨b, 0, none⟩)) := by rw [hO]; exact (Blk.new w _ _).cell 0 rfl
  have hin2 : OpIn s (s.take (Wd.named s)) (58 :: 45 :: t) (Wd.named s) := ⟨hn, named_le s, extr_take _ _, by rw [← hop]; exact extract_from s _⟩
  have htl : t.length < 1073741824 := by have := congrArg List.length hop; simp at this; omega
  have HAT := Lib.hid h
  have HG1 := Lib.hid (hg1.below (below_drew2 _) (by simp; omega))
  have HBO := Lib.hid hbO.drew
  have HIN := Lib.hid hin
  have hjl := joined_len l
  have hil := inner_len hin
  have hsz1 : (w.alloc O).drew.heap.size = w.heap.size + 1 := by simp
  have HSZ := Lib.hid hsz1
  clear hsz1 h hg hg1 hat1 hbO hv hop hxv hin
  generalize s.take (Wd.named s) = p at *
  generalize Wd.named s = N at *
  have n1 := hin2.n0
  have n2 := hin2.nl
  have n3 : (0 : Int) < (N : Int) := by omega
  have n4 : (N : Int) ≤ (s.length : Int) := by omega
  have n5 : ¬ (N : Int) = 0 := by omega
  have n6 : ¬ N = 0 := by omega
  have ext := hin2.p
  have exo := hin2.op
  have is0 : ∀ h, (⟨(58 :: 45 :: t).toArray⟩ : ByteArray)[0]'h = 58 := fun _ => rfl
  have is1 : ∀ h, (⟨(45 :: t).toArray⟩ : ByteArray)[0]'h = 45 := fun _ => rfl
  clear hin2 hn
  subst hO
  go_enter Tryz.func59, Tryz.ntmps59
  go_wp2_with fail
  refine hcp.mono ?_
  rintro e w1 ⟨rfl, rfl⟩
  clear hcp
  go_wp2_with fail
  refine hpar.mono ?_
  rintro e w1 ⟨rfl, rfl⟩
  clear hpar
  go_wp2_with fail
  go_region
  all_goals go_wp2_with fail
  all_goals refine hval.mono ?_
  all_goals
    rintro e w2 ⟨rfl, hb2⟩
    have k2 : w2.cell? ⟨w.heap.size, 0, none⟩ = some (.pointer (some ⟨b, 0, none⟩)) := by rw [hb2.cell (p := ⟨w.heap.size, 0, none⟩) (by rw [HSZ.out]; exact Nat.lt_succ_self _)]; exact kq
    have hsz2 : w.heap.size < w2.heap.size := by have := hb2.size; rw [HSZ.out] at this; omega
    have hb3 := HBO.out.trans (hb2.mono (by rw [HSZ.out]; omega))
    have HG2 := Lib.hid (HG1.out.below hb2 (by rw [HSZ.out]; omega))
    have HB3 := Lib.hid hb3
    clear hb3 hb2 hval kq
    go_wp2_with fail
    refine (hcp2 _).mono ?_
    rintro e w3 ⟨rfl, rfl⟩
    go_wp2_with fail
    have hb4 : Below w3.heap.size w3 (w3.alloc (.cells #[.string ⟨(45 :: t).toArray⟩] 9)) := (Below.refl _ _).alloc (Nat.le_refl _) _
    have hb5 := HB3.out.trans (hb4.mono (by omega))
    have hat4 := HAT.out.below hb5
    have kq4 : (w3.alloc (.cells #[.string ⟨(45 :: t).toArray⟩] 9)).cell? ⟨w.heap.size, 0, none⟩ = some (.pointer (some ⟨b, 0, none⟩)) := by rw [← k2]; exact hb4.cell (p := ⟨w.heap.size, 0, none⟩) hsz2
    have kq5 : (w3.alloc (.cells #[.string ⟨(45 :: t).toArray⟩] 9)).cell? ⟨w3.heap.size, 0, none⟩ = some (.string ⟨(45 :: t).toArray⟩) := (Blk.new w3 _ _).cell 0 rfl
    have hwo := word_any f hI _ b w.heap.size w3.heap.size vv av v x t 45 l hat4 (HG2.out.below hb4 (by omega)) h8 htl kq4 kq5 (HAT.out.apart (Nat.le_refl _)) (HAT.out.apart (by omega)) HIN.out
    have HX4 := Lib.hid (HAT.out.is.below hb5)
    have KQ4 := Lib.hid kq4
    have KQ5 := Lib.hid kq5
    clear hb4 hb5 hat4 kq4 kq5 k2
    refine hwo.mono ?_
    rintro e w6 ⟨rfl, hx6⟩
    have k6 : w6.cell? ⟨w.heap.size, 0, none⟩ = some (.pointer (some ⟨b, 0, none⟩)) := by rw [← KQ4.out]; exact World.cell?_of_block (hx6.kept.block _ (World.block_lt_of_cell? _ _ KQ4.out) (HAT.out.apart (Nat.le_refl _)))
    have j6 : w6.cell? ⟨w3.heap.size, 0, none⟩ = some (.string ⟨(45 :: t).toArray⟩) := by rw [← KQ5.out]; exact World.cell?_of_block (hx6.kept.block _ (World.block_lt_of_cell? _ _ KQ5.out) (HAT.out.apart (show w.heap.size ≤ w3.heap.size by omega)))
    have hres := result_any w6 b vv av v x (Wd.joined l) inq hx6.at_ (by omega) (by omega)
    have HX6 := Lib.hid (HX4.out.trans hx6)
    clear hwo hx6 KQ4 KQ5 HX4
    go_wp2_with fail
    refine hres.mono ?_
    rintro e w7 ⟨rfl, v7, hx7⟩
    have HX7 := Lib.hid (HX6.out.trans hx7)
    clear hres hx7
    go_wp2_with fail
    refine bodyPost_end (results_none rfl _ _ _) rfl ?_
    exact ⟨rfl, v7, HX7.out⟩

end Go.Proofs.YtfoehfehnmhhmaaGreatDoor
