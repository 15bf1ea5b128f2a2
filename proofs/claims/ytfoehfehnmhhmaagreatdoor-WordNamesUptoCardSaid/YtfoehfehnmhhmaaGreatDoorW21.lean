/-
  The walk of braced: a value cut. Condition: lengths.
-/
import Derived.Test.YtfoehfehnmhhmaaGreatDoorW20
namespace Go.Proofs.YtfoehfehnmhhmaaGreatDoor
open Go.RowKit Go.Shelf Go.Maps

theorem named_head {c : UInt8} {r : Wd.Bytes} (h : 0 < Wd.named (c :: r)) : Wd.head c = true := by
  rw [named_cons] at h
  by_cases hc : Wd.head c = true
  · exact hc
  · rw [if_neg hc] at h; omega
theorem named_take {s : Wd.Bytes} (h : 0 < Wd.named s) : 0 < Wd.named (s.take (Wd.named s)) := by
  cases s with
  | nil => simp [Wd.named] at h
  | cons c r =>
    have hh := named_head h
    obtain ⟨k, hk⟩ : ∃ k, Wd.named (c :: r) = k + 1 := ⟨Wd.named (c :: r) - 1, by omega⟩
    rw [hk, List.take_succ_cons, named_cons, if_pos hh]
    omega
theorem named_not35 {s : Wd.Bytes} (h : 0 < Wd.named s) : Wd.pre [35] s = false := by
  cases s with
  | nil => rfl
  | cons c r =>
    have hh := named_head h
    by_cases hc : c = 35
    · subst hc; exact absurd hh (by decide)
    · simp [Wd.pre, List.isPrefixOf, Ne.symm hc]

/-- What is known ahead of an operator. -/
structure OpIn (s p op : Wd.Bytes) (N : Nat) : Prop where
  n0 : 0 < N
  nl : N ≤ s.length
  p : (⟨s.toArray⟩ : ByteArray).extract 0 N = ⟨p.toArray⟩
  op : (⟨s.toArray⟩ : ByteArray).extract N s.length = ⟨op.toArray⟩

set_option maxHeartbeats 6400000 in
set_option maxRecDepth 100000 in
theorem braced_cut (w : World) (b : Nat) (vv av v : Value) (x : Wd.Ex) (s ww val u : Wd.Bytes) (o : UInt8) (fl inq : Bool) (h : ExAt w b vv av x v) (hg : Glo w) (h8 : 8 ≤ b) (hl : x.l.length ≤ 1073741824) (hs : s.length < 1073741824)
    (hn : 0 < Wd.named s) (hop : s.drop (Wd.named s) = o :: ww) (hoo : o = 37 ∨ o = 35) (hv : x.value (s.take (Wd.named s)) = some (val, fl)) (hu : u.length ≤ 1073741824)
    (hcut : ∀ W, ExAt W b vv av x v → Glo W → Calls Tryz.prog 76 #[.pointer (some ⟨b, 0, none⟩), .string ⟨val.toArray⟩, .string ⟨(o :: ww).toArray⟩] W fun e w' => e = .returned (.string ⟨u.toArray⟩) ∧ ExIs W w' b vv av x v v) :
    Calls Tryz.prog 59 #[.pointer (some ⟨b, 0, none⟩), .string ⟨s.toArray⟩, .bool inq] w fun e w' => e = .returned (.tuple #[]) ∧ ∃ v', ExIs w w' b vv av (x.result u inq) v v' := by
  obtain ⟨O, hO⟩ : ∃ O : Obj, O = .cells #[.pointer (some ⟨b, 0, none⟩)] 44 := ⟨_, rfl⟩
  have hbO : Below w.heap.size w (w.alloc O) := (Below.refl _ _).alloc (Nat.le_refl _) _
  have hlt := h.blk.lt
  have hat1 := h.below hbO
  have hcp := cutPrefix_any s [35] (w.alloc O)
  rw [named_not35 hn, if_neg (by decide)] at hcp
  have hpar := parameter_any (w.alloc O) s hs hn
  have hg1 := hg.below hbO (by omega)
  have hval := value_any (w.alloc O).drew b vv av v x (s.take (Wd.named s)) val fl (hat1.below (below_drew2 _)) (hg1.below (below_drew2 _) (by simp; omega)) (by simp; omega) (by rw [List.length_take]; omega) hv
  have kq : (w.alloc O).drew.cell? ⟨w.heap.size, 0, none⟩ = some (.pointer (some ⟨b, 0, none⟩)) := by rw [hO]; exact (Blk.new w _ _).cell 0 rfl
  have hin : OpIn s (s.take (Wd.named s)) (o :: ww) (Wd.named s) := ⟨hn, named_le s, extr_take _ _, by rw [← hop]; exact extract_from s _⟩
  have HAT := Lib.hid h
  have HG1 := Lib.hid (hg1.below (below_drew2 _) (by simp; omega))
  have HBO := Lib.hid hbO.drew
  have hsz1 : (w.alloc O).drew.heap.size = w.heap.size + 1 := by simp
  have HSZ := Lib.hid hsz1
  clear hsz1 h hg hg1 hat1 hbO hv hop
  generalize s.take (Wd.named s) = p at *
  generalize Wd.named s = N at *
  have n1 := hin.n0
  have n2 := hin.nl
  have n3 : (0 : Int) < (N : Int) := by omega
  have n4 : (N : Int) ≤ (s.length : Int) := by omega
  have n5 : ¬ (N : Int) = 0 := by omega
  have n6 : ¬ N = 0 := by omega
  have ext := hin.p
  have exo := hin.op
  have eso : ((⟨(o :: ww).toArray⟩ : ByteArray) == ⟨#[]⟩) = false := str_nil _
  have is0 : ∀ h, (⟨(o :: ww).toArray⟩ : ByteArray)[0]'h = o := fun _ => rfl
  clear hin hn
  subst hO
  rcases hoo with rfl | rfl
  all_goals
    go_enter Tryz.func59, Tryz.ntmps59
    go_wp2_with fail
    refine hcp.mono ?_
    rintro e w1 ⟨rfl, rfl⟩
    clear hcp
    go_wp2_with fail
    refine hpar.mono ?_
    rintro e w1 ⟨rfl, rfl⟩
    clear hpar
    go_wp2_with fail
    go_region
    all_goals go_wp2_with fail
    all_goals refine hval.mono ?_
    all_goals
      rintro e w2 ⟨rfl, hb2⟩
      have k2 : w2.cell? ⟨w.heap.size, 0, none⟩ = some (.pointer (some ⟨b, 0, none⟩)) := by rw [hb2.cell (p := ⟨w.heap.size, 0, none⟩) (by rw [HSZ.out]; exact Nat.lt_succ_self _)]; exact kq
      have k3 : w2.drew.cell? ⟨w.heap.size, 0, none⟩ = some (.pointer (some ⟨b, 0, none⟩)) := k2
      have hsz2 : w.heap.size < w2.heap.size := by have := hb2.size; rw [HSZ.out] at this; omega
      have hb3 := HBO.out.trans (hb2.mono (by rw [HSZ.out]; omega))
      have hat2 := HAT.out.below hb3.drew
      have HCUT := Lib.hid (hcut w2.drew hat2 ((HG1.out.below hb2 (by rw [HSZ.out]; omega)).below (below_drew2 _) (by omega)))
      have HX2 := Lib.hid (HAT.out.is.below hb3.drew)
      clear hat2 hb3 hb2 hval kq hcut
      go_wp2_with fail
      go_region_held3 (fun w' => w'.cell? ⟨w.heap.size, 0, none⟩ = some (.pointer (some ⟨b, 0, none⟩)))
        (first | go_keep | (exact K4) | (exact K5))
        ((first
          | (go_at_call 76; refine HCUT.out.mono ?_; rintro e w4 ⟨rfl, hx4⟩; have K4 : w4.cell? ⟨w.heap.size, 0, none⟩ = some (.pointer (some ⟨b, 0, none⟩)) := (by rw [← k3]; exact World.cell?_of_block (hx4.kept.block _ hsz2 (HAT.out.apart (Nat.le_refl _)))); have HR := Lib.hid (result_any w4 b vv av v x u inq hx4.at_ (by omega) (by omega)); have HX4 := Lib.hid (HX2.out.trans hx4); clear hx4)
          | (go_at_call 74; refine HR.out.mono ?_; rintro e w5 ⟨rfl, v5, hx5⟩; have HX5 := Lib.hid (HX4.out.trans hx5); have K5 : w5.cell? ⟨w.heap.size, 0, none⟩ = some (.pointer (some ⟨b, 0, none⟩)) := (by rw [← K4]; exact World.cell?_of_block (hx5.kept.block _ (World.block_lt_of_cell? _ _ K4) (HAT.out.apart (Nat.le_refl _)))); clear hx5)))
      go_wp2_with fail
      refine bodyPost_ret (results_none rfl _ _ _) rfl ?_
      exact ⟨rfl, _, HX5.out⟩

end Go.Proofs.YtfoehfehnmhhmaaGreatDoor
