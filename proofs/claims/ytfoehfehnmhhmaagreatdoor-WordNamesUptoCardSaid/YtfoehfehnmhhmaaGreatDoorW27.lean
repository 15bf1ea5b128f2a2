/-
  The walk of Value. Condition: lengths.
-/
import Derived.Test.YtfoehfehnmhhmaaGreatDoorW26
namespace Go.Proofs.YtfoehfehnmhhmaaGreatDoor
open Go.RowKit Go.Shelf Go.Maps

theorem below_of_kept {S : Nat → Prop} {B : Nat} {w w' : World} (h : Kept S w w') (hS : ∀ k, S k → B ≤ k) (hB : B ≤ w.heap.size) : Below B w w' :=
  ⟨h.os, h.tape, h.output, h.size, fun k hk => h.block k (by omega) fun hs => by have := hS k hs; omega⟩

/-- What is there when a word has been gone through: the expander at b, its pointer at q. -/
structure RanIn (w w5 : World) (b q : Nat) (vv av v : Value) (y : Wd.Ex) : Prop where
  at_ : ExAt w5 b vv av y v
  ptr : Blk w5 q #[.pointer (some ⟨b, 0, none⟩)] 44
  below : Below w.heap.size w w5
  lb : w.heap.size ≤ b
  lq : w.heap.size ≤ q

/-- What stands between begun and the end of caught. -/
theorem ran_of {w w2 : World} {b : Nat} {vv av : Value} {x y : Wd.Ex} (hat : ExAt w2 b vv av x (.slice none 0 0)) (hb : Below w.heap.size w w2) (hwb : w.heap.size ≤ b) {w9 : World} {O : Obj}
    {E : Obj} {W3 W4 : World} (hO : O = .cells #[.pointer (some ⟨b, 0, none⟩)] 44) (e3 : W3 = w2.alloc O) (e4 : W4 = W3.alloc E)
    (hP : ∃ v', ExIs W4 w9 b vv av y (.slice none 0 0) v') : ∃ v', RanIn w (w9.setCell ⟨W3.heap.size, 0, none⟩ (.int .i64 0)) b w2.heap.size vv av v' y := by
  obtain ⟨v', hx⟩ := hP
  have hlt := hat.blk.lt
  have hw2 := hb.size
  have s3 : W3.heap.size = w2.heap.size + 1 := by rw [e3]; simp
  have s4 : W4.heap.size = w2.heap.size + 2 := by rw [e4]; simp [s3]
  have hq3 : Blk W4 w2.heap.size #[.pointer (some ⟨b, 0, none⟩)] 44 := by rw [e4, e3, hO]; exact (Blk.new w2 _ _).alloc _
  have hq9 := hq3.kept hx.kept (by rintro (h | h); omega; cases h)
  have hk : Kept (· = W3.heap.size) w9 (w9.setCell ⟨W3.heap.size, 0, none⟩ (.int .i64 0)) := (Kept.refl (· = W3.heap.size) w9).setCell (.inl rfl) 0 _
  refine ⟨v', hx.at_.kept hk ?_, hq9.kept hk (by omega), ?_, hwb, hb.size⟩
  · rintro k (h | h) rfl
    · omega
    · rcases hx.fresh _ h with h2 | h2
      · cases h2
      · omega
  · have h1 : Below w.heap.size w W4 := by rw [e4, e3]; exact (hb.alloc hw2 _).alloc (by simp; omega) _
    have h2 : Below w.heap.size W4 w9 := below_of_kept hx.kept (by rintro k (h | h); omega; cases h) (by omega)
    have h3 : Below w.heap.size w9 _ := below_of_kept hk (by rintro k rfl; omega) (by have := hx.kept.size; omega)
    exact (h1.trans h2).trans h3

set_option maxHeartbeats 3200000 in
set_option maxRecDepth 100000 in
theorem Value_any (w : World) (B : Nat) (vv av : Value) (vars args : List Wd.Bytes) (st : Nat) (s u : Wd.Bytes) (hv : StrsAt w B vv vars) (ha : StrsAt w B av args) (hg : Glo w) (h8 : 8 ≤ w.heap.size) (hs : s.length < 1073741824)
    (hu : Wd.valueOf vars args st s = some u) :
    Calls Tryz.prog 6 #[.string ⟨s.toArray⟩, .agg #[vv, av, .int .i64 st]] w fun e w' => (∃ v2, e = .returned (.tuple #[.string ⟨u.toArray⟩, v2, .int .i64 0])) ∧ Below w.heap.size w w' := by
  have hmf : ∀ (fn : Fn) (first cap : Array Value) (w : World), (Instr.makeFunc fn first cap).run Tryz.prog w = .ok (.func fn first cap) w := fun _ _ _ _ => rfl
  obtain ⟨p0, n0, kk0, rfl⟩ := hv.slice
  obtain ⟨p1, n1, kk1, rfl⟩ := ha.slice
  unfold Wd.valueOf at hu
  rcases hrr : Wd.run (Wd.fuelOf s) (Wd.begun vars args st true) s false with _ | y
  · rw [hrr] at hu; cases hu
  rw [hrr] at hu
  simp only [Option.bind_some] at hu
  by_cases hyl : Wd.lim < y.l.length
  · rw [if_pos hyl] at hu; cases hu
  rw [if_neg hyl] at hu
  have hyl : y.l.length ≤ 4294967296 := by
    have h1 : ¬ (1073741824 < y.l.length) := hyl
    omega
  obtain rfl : Wd.joined y.l = u := Option.some.inj hu
  obtain ⟨O1, hO1⟩ : ∃ O : Obj, O = .cells #[.string ⟨s.toArray⟩] 9 := ⟨_, rfl⟩
  obtain ⟨O2, hO2⟩ : ∃ O : Obj, O = .cells #[.slice p0 n0 kk0, .slice p1 n1 kk1, .int .i64 st] 25 := ⟨_, rfl⟩
  have hb1 : Below w.heap.size w ((w.alloc O1).alloc O2) := ((Below.refl _ _).alloc (Nat.le_refl _) _).alloc (by simp) _
  have kw : Blk ((w.alloc O1).alloc O2) w.heap.size #[.string ⟨s.toArray⟩] 9 := by rw [hO1]; exact (Blk.new w _ _).alloc _
  have ks : Blk ((w.alloc O1).alloc O2) (w.heap.size + 1) #[.slice p0 n0 kk0, .slice p1 n1 kk1, .int .i64 st] 25 := by
    have := Blk.new (w.alloc O1) #[.slice p0 n0 kk0, .slice p1 n1 kk1, .int .i64 st] 25
    rw [← hO2, show (w.alloc O1).heap.size = w.heap.size + 1 by simp] at this
    exact this
  have k0 := ks.cell 0 rfl
  have k1 := ks.cell 1 rfl
  have k2 := ks.cell 2 rfl
  have hbeg := begun_any ((w.alloc O1).alloc O2) B _ _ vars args st true (hv.below hb1) (ha.below hb1)
  have hs1 : ((w.alloc O1).alloc O2).heap.size = w.heap.size + 2 := by simp
  have HB1 := Lib.hid hb1
  have HKW := Lib.hid kw
  have HG1 := Lib.hid (hg.below hb1 h8)
  have HS1 := Lib.hid hs1
  have HRR := Lib.hid hrr
  clear hb1 kw ks hs1 hg hv ha hu hrr
  subst hO1 hO2
  go_enter Tryz.func6, Tryz.ntmps6
  go_wp2_with fail
  refine hbeg.mono ?_
  rintro e w2 ⟨b, vv', av', rfl, hwb, hat, hb2⟩
  have hs2 := hb2.size
  rw [HS1.out] at hs2 hwb
  obtain ⟨W3, e3⟩ : ∃ W, W = w2.alloc (.cells #[.pointer (some ⟨b, 0, none⟩)] 44) := ⟨_, rfl⟩
  obtain ⟨W4, e4⟩ : ∃ W, W = W3.alloc (.cells #[.int .i64 0] 26) := ⟨_, rfl⟩
  have hb02 := HB1.out.trans (hb2.mono (by rw [HS1.out]; omega))
  have b24 : Below w2.heap.size w2 W4 := by rw [e4, e3]; exact ((Below.refl _ _).alloc (Nat.le_refl _) _).alloc (by simp) _
  have hlt := hat.blk.lt
  have hat4 := hat.below b24
  have hg4 : Glo W4 := (HG1.out.below hb2 (by rw [HS1.out]; omega)).below b24 (by omega)
  have kq : W4.cell? ⟨w2.heap.size, 0, none⟩ = some (.pointer (some ⟨b, 0, none⟩)) := by rw [e4, e3]; exact ((Blk.new w2 _ _).alloc _).cell 0 rfl
  have kq2 : W4.cell? ⟨w.heap.size, 0, none⟩ = some (.string ⟨s.toArray⟩) := ((HKW.out.keep hb2 (by rw [HS1.out]; omega)).keep b24 (by omega)).cell 0 rfl
  have hval := value1_any W4 _ w2.heap.size w.heap.size b vv' av' _ _ y s hat4 hg4 (by omega) hs kq kq2 HRR.out
  have hs3 : W3.heap.size = w2.heap.size + 1 := by rw [e3]; simp
  have hcau := caught_value W3 w2.heap.size w.heap.size (fun w' => ∃ v', ExIs W4 w' b vv' av' y (.slice none 0 0) v') (fun k => k = b) (by omega)
    (by rw [← e4]; exact hval.mono fun e w' ⟨h1, v', hx⟩ => ⟨h1, ⟨v', hx⟩, hx.kept.mono (by rintro k - (h | h); exact h; cases h)⟩)
  have HCAU := Lib.hid hcau
  have HAT := Lib.hid hat
  have HB02 := Lib.hid hb02
  have E3 := Lib.hid e3
  have E4 := Lib.hid e4
  clear hcau hval kq kq2 hg4 hat4 b24 hb02 e3 e4 hat hb2 hbeg
  go_wp2_with fail
  rw [← E3.out]
  refine HCAU.out.mono ?_
  rintro e w9 ⟨rfl, w8, hP, -, rfl⟩
  obtain ⟨v', hran⟩ := ran_of HAT.out HB02.out (by omega) rfl E3.out E4.out hP
  clear hP HCAU
  generalize w8.setCell ⟨W3.heap.size, 0, none⟩ (.int .i64 0) = w5 at *
  have m1 : w5.drew.cell? ⟨w2.heap.size, 0, none⟩ = some (.pointer (some ⟨b, 0, none⟩)) := hran.ptr.cell 0 rfl
  have m2 : w5.drew.cell? ⟨b, 3, none⟩ = some v' := hran.at_.blk.cell 3 rfl
  have m3 : w5.drew.cell? ⟨b, 0, none⟩ = some vv' := hran.at_.blk.cell 0 rfl
  have HJ := Lib.hid (joined_any _ v' y.l w5.drew (hran.at_.own.drew) hyl)
  have HR := Lib.hid hran
  clear hran
  go_wp2_with fail
  go_region_held3 (fun w' => w'.cell? ⟨w2.heap.size, 0, none⟩ = some (.pointer (some ⟨b, 0, none⟩)) ∧ w'.cell? ⟨b, 3, none⟩ = some v' ∧ w'.cell? ⟨b, 0, none⟩ = some vv')
    (first | go_keep | (exact ⟨M1, M2, M3⟩))
    ((first
      | (go_at_call 22; refine HJ.out.mono ?_; rintro e w6 ⟨rfl, hb6⟩; have M1 : w6.cell? ⟨w2.heap.size, 0, none⟩ = some (.pointer (some ⟨b, 0, none⟩)) := (by rw [← m1]; exact World.cell?_of_block (hb6.block _ (World.block_lt_of_cell? _ _ m1))); have M2 : w6.cell? ⟨b, 3, none⟩ = some v' := (by rw [← m2]; exact World.cell?_of_block (hb6.block _ (World.block_lt_of_cell? _ _ m2))); have M3 : w6.cell? ⟨b, 0, none⟩ = some vv' := (by rw [← m3]; exact World.cell?_of_block (hb6.block _ (World.block_lt_of_cell? _ _ m3))); have HB6 := Lib.hid (HR.out.below.drew.trans (hb6.mono HR.out.below.size)); clear hb6)))
  go_wp2_with fail
  go_ret3
  exact ⟨⟨_, rfl⟩, HB6.out⟩

end Go.Proofs.YtfoehfehnmhhmaaGreatDoor
