/-
  Texts of this seat put together: V12, V13, V5, V6.
-/
import Derived.Test.YtbpcfjoebfbjmaaGreatDoorQ19
import Derived.Test.YtbpcfjoebfbjmaaGreatDoorQ17
import Derived.Test.YtbpcfjoebfbjmaaGreatDoorQ13

/-
  The walk of width's Run: a job without nodes. Condition: what Start's machine does (Starts).
-/
namespace Go.Proofs.YtbpcfjoebfbjmaaGreatDoor
open Go.RowKit Go.Shelf Go.Maps

set_option maxRecDepth 100000 in
set_option maxHeartbeats 8000000 in
theorem widthRun_any (l : List Bts) (hne : l ≠ []) (hll : l.length < 1073741824) (pa : Option Addr) (ca : Nat) (pi : Option Addr) (ci : Nat) (inp : Bts) (hin : inp.length ≤ 4294967296) (buf line run : Nat) (h1 : 1 ≤ buf) (h2 : 1 ≤ line) (h3 : line ≤ run) (h4 : run ≤ 1099511627776) (h5 : buf ≤ 1099511627776)
    (Q : Int → Bts → Bts → Prop) (m : Int) (w : World) (hst : ∀ w1, Below w.heap.size w w1 → Starts w1 27 l buf line run inp Q) (hQ : ∀ st o e, Q st o e → o.length ≤ 4294967296 ∧ e.length ≤ 4294967296) (hm : w.cell? ⟨5, 0, none⟩ = some (.int .i64 m)) (ha : Ss w pa l) (hi : Bs w pi inp) :
    Calls Tryz.prog 14 #[jobV (.slice pa l.length ca) (.slice pi inp.length ci) buf line run] w fun e w' => ∃ ov ev st steps peak out err, e = .returned (.tuple #[.agg #[ov, ev, .int .i64 st, .slice none 0 0, .int .i64 steps, .int .i64 peak, .int .i64 0], .bool true]) ∧ Sl w' (fun g => w.heap.size ≤ g) ov out ∧ Sl w' (fun g => w.heap.size ≤ g) ev err ∧ Q st out err ∧ Below w.heap.size w w' := by
  have hsg : ∀ (args : Array Value) (w : World), (callFunc 27 args).run Tryz.prog w = .ok (.enter 27 args) w := enters_of Tryz.func27 (by kernel_rfl) rfl
  obtain ⟨w1, hw1⟩ : ∃ w1, (w.alloc (.cells #[.slice pa l.length ca, .slice none 0 0, .string ⟨#[]⟩, .slice pi inp.length ci, .slice none 0 0, .int .i64 buf, .int .i64 line, .int .i64 run, .slice none 0 0, .int .i64 0, .slice none 0 0] 32)).alloc (.cells #[.slice none 0 0, .slice none 0 0, .int .i64 0, .slice none 0 0, .int .i64 0, .int .i64 0, .int .i64 0] 34) = w1 := ⟨_, rfl⟩
  have hb1 : Below w.heap.size w w1 := by rw [← hw1]; exact ((Below.refl _ _).alloc (Nat.le_refl _) _).alloc (by simp) _
  have kj1 : Blk w1 w.heap.size #[.slice pa l.length ca, .slice none 0 0, .string ⟨#[]⟩, .slice pi inp.length ci, .slice none 0 0, .int .i64 buf, .int .i64 line, .int .i64 run, .slice none 0 0, .int .i64 0, .slice none 0 0] 32 := by rw [← hw1]; exact (Blk.new _ _ _).alloc _
  have kr1 : Blk w1 (w.heap.size + 1) #[.slice none 0 0, .slice none 0 0, .int .i64 0, .slice none 0 0, .int .i64 0, .int .i64 0, .int .i64 0] 34 := by
    rw [← hw1]
    have := Blk.new (w.alloc (.cells #[.slice pa l.length ca, .slice none 0 0, .string ⟨#[]⟩, .slice pi inp.length ci, .slice none 0 0, .int .i64 buf, .int .i64 line, .int .i64 run, .slice none 0 0, .int .i64 0, .slice none 0 0] 32)) #[.slice none 0 0, .slice none 0 0, .int .i64 0, .slice none 0 0, .int .i64 0, .int .i64 0, .int .i64 0] 34
    simpa only [World.size_alloc] using this
  have hs1 : w1.heap.size = w.heap.size + 1 + 1 := by rw [← hw1]; simp
  have hrun := run_any l hne hll pa ca pi ci inp hin buf line run h1 h2 h3 h4 h5 _ hsg Q m w1 (hst w1 hb1) hQ ((hb1.cell (p := ⟨5, 0, none⟩) (World.block_lt_of_cell? _ _ hm)).trans hm) (ha.below hb1) (hi.below hb1 (Nat.le_refl _))
  have HB := Lib.hid hb1
  have HR := Lib.hid kr1
  have HS := Lib.hid hs1
  have j0 := kj1.cell 0 (v := .slice pa l.length ca) rfl
  have j1 := kj1.cell 1 (v := .slice none 0 0) rfl
  have j2 := kj1.cell 2 (v := .string ⟨#[]⟩) rfl
  have j3 := kj1.cell 3 (v := .slice pi inp.length ci) rfl
  have j4 := kj1.cell 4 (v := .slice none 0 0) rfl
  have j5 := kj1.cell 5 (v := .int .i64 buf) rfl
  have j6 := kj1.cell 6 (v := .int .i64 line) rfl
  have j7 := kj1.cell 7 (v := .int .i64 run) rfl
  have j8 := kj1.cell 8 (v := .slice none 0 0) rfl
  have j9 := kj1.cell 9 (v := .int .i64 0) rfl
  have j10 := kj1.cell 10 (v := .slice none 0 0) rfl
  clear hst hm ha hi hb1 kj1 kr1 hsg hs1
  unfold jobV at *
  go_enter Tryz.func14, Tryz.ntmps14
  go_wp2_with fail
  try rw [hw1]
  refine hrun.mono ?_
  rintro e w2 ⟨ov, ev, st, steps, peak, out, err, rfl, so, se, hq, hb2⟩
  obtain ⟨p1, c1, rfl, -, -⟩ := id so.bs
  obtain ⟨p2, c2, rfl, -, -⟩ := id se.bs
  have hr2 := HR.out.keep hb2 HR.out.lt
  have z0 := hr2.cell 0 (v := .slice none 0 0) rfl
  have y0 := hr2.free 0
  have z1 := hr2.cell 1 (v := .slice none 0 0) rfl
  have y1 := hr2.free 1
  have z2 := hr2.cell 2 (v := .int .i64 0) rfl
  have y2 := hr2.free 2
  have z3 := hr2.cell 3 (v := .slice none 0 0) rfl
  have y3 := hr2.free 3
  have z4 := hr2.cell 4 (v := .int .i64 0) rfl
  have y4 := hr2.free 4
  have z5 := hr2.cell 5 (v := .int .i64 0) rfl
  have y5 := hr2.free 5
  have z6 := hr2.cell 6 (v := .int .i64 0) rfl
  have y6 := hr2.free 6
  obtain ⟨w3, hw3⟩ : ∃ w3, (((((((w2.setCell ⟨w.heap.size + 1, 0, none⟩ (.slice p1 out.length c1)).setCell ⟨w.heap.size + 1, 1, none⟩ (.slice p2 err.length c2)).setCell ⟨w.heap.size + 1, 2, none⟩ (.int .i64 st)).setCell ⟨w.heap.size + 1, 3, none⟩ (.slice none 0 0)).setCell ⟨w.heap.size + 1, 4, none⟩ (.int .i64 steps)).setCell ⟨w.heap.size + 1, 5, none⟩ (.int .i64 peak)).setCell ⟨w.heap.size + 1, 6, none⟩ (.int .i64 0)) = w3 := ⟨_, rfl⟩
  have hr3 : Blk w3 (w.heap.size + 1) #[.slice p1 out.length c1, .slice p2 err.length c2, .int .i64 st, .slice none 0 0, .int .i64 steps, .int .i64 peak, .int .i64 0] 34 := by
    rw [← hw3]
    exact (((((((hr2.set 0 _).set 1 _).set 2 _).set 3 _).set 4 _).set 5 _).set 6 _)
  have hk3 : Kept (fun j => j = w.heap.size + 1) w2 w3 := by
    rw [← hw3]
    exact ((((((((Kept.refl (fun j => j = w.heap.size + 1) w2).setCell (.inl rfl) 0 _).setCell (.inl rfl) 1 _).setCell (.inl rfl) 2 _).setCell (.inl rfl) 3 _).setCell (.inl rfl) 4 _).setCell (.inl rfl) 5 _).setCell (.inl rfl) 6 _)
  have HW3 := Lib.hid hw3
  have HR3 := Lib.hid hr3
  have HK3 := Lib.hid hk3
  have HSO := Lib.hid so
  have HSE := Lib.hid se
  have HB2 := Lib.hid hb2
  have HQ := Lib.hid hq
  clear hrun hr2 hw3 hr3 hk3 so se hb2 hq hw1 hQ
  go_wp2_with fail
  try rw [HW3.out]
  have r0 := HR3.out.cell 0 (v := .slice p1 out.length c1) rfl
  have r1 := HR3.out.cell 1 (v := .slice p2 err.length c2) rfl
  have r2 := HR3.out.cell 2 (v := .int .i64 st) rfl
  have r3 := HR3.out.cell 3 (v := .slice none 0 0) rfl
  have r4 := HR3.out.cell 4 (v := .int .i64 steps) rfl
  have r5 := HR3.out.cell 5 (v := .int .i64 peak) rfl
  have r6 := HR3.out.cell 6 (v := .int .i64 0) rfl
  have hbw : Below w.heap.size w w3 := by
    have a1 := HB.out.size
    have a2 := HB.out.trans (HB2.out.mono a1)
    refine a2.trans ⟨HK3.out.os, HK3.out.tape, HK3.out.output, HK3.out.size, fun k hk => HK3.out.block k (Nat.lt_of_lt_of_le hk a2.size) (by omega)⟩
  have hs1 := HS.out
  have sO : Sl w3 (fun g => w.heap.size ≤ g) (.slice p1 out.length c1) out := (HSO.out.kept HK3.out fun g _ hg e => by have h : w1.heap.size ≤ g := hg; omega).mono fun g _ hg => by have h : w1.heap.size ≤ g := hg; omega
  have sE : Sl w3 (fun g => w.heap.size ≤ g) (.slice p2 err.length c2) err := (HSE.out.kept HK3.out fun g _ hg e => by have h : w1.heap.size ≤ g := hg; omega).mono fun g _ hg => by have h : w1.heap.size ≤ g := hg; omega
  refine bodyPost_ret (v := .tuple #[.agg #[.slice p1 out.length c1, .slice p2 err.length c2, .int .i64 st, .slice none 0 0, .int .i64 steps, .int .i64 peak, .int .i64 0], .bool true]) ?_ rfl ⟨_, _, _, _, _, out, err, rfl, sO, sE, HQ.out, hbw⟩
  simp [results, Tryz.results14, go_sem, r0, r1, r2, r3, r4, r5, r6]

end Go.Proofs.YtbpcfjoebfbjmaaGreatDoor

/-
  width's fold as a machine that starts; the walk of the law's run. Conditions: those of fold's main; what Start's machine does.
-/
namespace Go.Proofs.YtbpcfjoebfbjmaaGreatDoor
open Go.RowKit Go.Shelf Go.Maps

/-- What a utility's job ends with. -/
def EndQ (a0 : Bts) (r : Bts × Bool) (st : Int) (out err : Bts) : Prop := st = (if r.2 then 0 else 1) ∧ out = r.1 ∧ err = (if r.2 then [] else diagOf a0 [45] 18)
theorem EndQ.of {F : Fx} {M : Nat → Prop} {a0 : Bts} {r : Bts × Bool} {W W' : World} {e : Ending} (h : MainPost F M a0 r W e W') : ∃ st inp' out' err' M', e = .returned (.int .i64 st) ∧ PrAt W' F M' inp' out' err' ∧ Mv M M' W W' ∧ EndQ a0 r st out' err' := by
  obtain ⟨inp', M', he, hp, hm⟩ := h
  exact ⟨_, inp', _, _, M', he, hp, hm, rfl, rfl, rfl⟩
theorem EndQ.len {a0 : Bts} {r : Bts × Bool} (ha : a0.length ≤ 1000000) (hr : r.1.length ≤ 4294967296) (st : Int) (o e : Bts) (h : EndQ a0 r st o e) : o.length ≤ 4294967296 ∧ e.length ≤ 4294967296 := by
  obtain ⟨-, rfl, rfl⟩ := h
  refine ⟨hr, ?_⟩
  have := diag_len a0 [45] 18
  split
  · simp
  · simp at this; omega

theorem starts_fold (w1 : World) (hg : Glo w1) (rest : List Bts) (hrest : rest ≠ []) (htot : totL rest ≤ 1000000) (L : List OptA) (hp : Op.parse [98, 115, 119, 58] rest = some (L, [])) (hLN : L.length ≤ 1000000) (hLl : ∀ o ∈ L, o.2.length ≤ 1000000)
    (wd : Nat) (hwd : numOpt L 119 80 1 2147483647 = ((wd : Int), true)) (h1 : 1 ≤ wd) (h2 : wd ≤ 2147483647) (inp : Bts) (hok : ∀ c ∈ inp, Moves (Op.has L 98) c) (buf line run : Nat) (hbig : (Wi.runs (Wi.still (Wi.fold (Op.has L 115) wd)) line () inp).1.length ≤ 4294967296) :
    Starts w1 27 ([102, 111, 108, 100] :: rest) buf line run inp (EndQ [102, 111, 108, 100] (Wi.runs (Wi.still (Wi.fold (Op.has L 115) wd)) line () inp)) := by
  intro F M ha _ hline _ hw0
  subst hw0
  subst hline
  refine ⟨48, enters_of Tryz.func48 (by kernel_rfl) rfl, fun W hW => ?_, fun W hW => ?_⟩
  · exact start_fold F M inp rest ha W hW
  · exact (fold_any F M inp _ rest ha hrest htot (by decide) L hp hLN hLl wd hwd h1 h2 hg hok hbig W hW).mono fun e w' h => EndQ.of h

set_option maxRecDepth 100000 in
set_option maxHeartbeats 8000000 in
theorem lawRun_any (l : List Bts) (hne : l ≠ []) (hll : l.length < 1073741824) (pa : Option Addr) (ca : Nat) (pi : Option Addr) (ci : Nat) (inp : Bts) (hin : inp.length ≤ 4294967296) (buf line run : Nat) (h1 : 1 ≤ buf) (h2 : 1 ≤ line) (h3 : line ≤ run) (h4 : run ≤ 1099511627776) (h5 : buf ≤ 1099511627776)
    (Q : Int → Bts → Bts → Prop) (w : World) (hg : Glo w) (hst : ∀ w1, Below w.heap.size w w1 → Starts w1 27 l buf line run inp Q) (hQ : ∀ st o e, Q st o e → o.length ≤ 4294967296 ∧ e.length ≤ 4294967296) (ha : Ss w pa l) (hi : Bs w pi inp) :
    Calls Tryz.prog 6 #[.slice pi inp.length ci, .agg #[.int .i64 buf, .int .i64 line, .int .i64 run], .slice pa l.length ca] w fun e w' => ∃ ov ev st steps peak out err, e = .returned (.tuple #[.agg #[ov, ev, .int .i64 st, .slice none 0 0, .int .i64 steps, .int .i64 peak, .int .i64 0], .bool true]) ∧ Sl w' (fun g => w.heap.size ≤ g) ov out ∧ Sl w' (fun g => w.heap.size ≤ g) ev err ∧ Q st out err ∧ Below w.heap.size w w' := by
  obtain ⟨m, hm⟩ := hg.mx
  obtain ⟨w1, hw1⟩ : ∃ w1, (w.alloc (.cells #[.int .i64 (buf : Int), .int .i64 (line : Int), .int .i64 (run : Int)] 24)).alloc (.cells #[.slice none 0 0, .slice none 0 0, .int .i64 0, .slice none 0 0, .int .i64 0, .int .i64 0, .int .i64 0] 34) = w1 := ⟨_, rfl⟩
  have hb1 : Below w.heap.size w w1 := by rw [← hw1]; exact ((Below.refl _ _).alloc (Nat.le_refl _) _).alloc (by simp) _
  have kl1 : Blk w1 w.heap.size #[.int .i64 (buf : Int), .int .i64 (line : Int), .int .i64 (run : Int)] 24 := by rw [← hw1]; exact (Blk.new _ _ _).alloc _
  have kr1 : Blk w1 (w.heap.size + 1) #[.slice none 0 0, .slice none 0 0, .int .i64 0, .slice none 0 0, .int .i64 0, .int .i64 0, .int .i64 0] 34 := by
    rw [← hw1]
    have := Blk.new (w.alloc (.cells #[.int .i64 (buf : Int), .int .i64 (line : Int), .int .i64 (run : Int)] 24)) #[.slice none 0 0, .slice none 0 0, .int .i64 0, .slice none 0 0, .int .i64 0, .int .i64 0, .int .i64 0] 34
    simpa only [World.size_alloc] using this
  have hs1 : w1.heap.size = w.heap.size + 1 + 1 := by rw [← hw1]; simp
  have hrun := widthRun_any l hne hll pa ca pi ci inp hin buf line run h1 h2 h3 h4 h5 Q m w1 (fun w2 hb2 => hst w2 (hb1.trans (hb2.mono hb1.size))) hQ ((hb1.cell (p := ⟨5, 0, none⟩) (World.block_lt_of_cell? _ _ hm)).trans hm) (ha.below hb1) (hi.below hb1 (Nat.le_refl _))
  have HB := Lib.hid hb1
  have HR := Lib.hid kr1
  have HS := Lib.hid hs1
  have j0 := kl1.cell 0 (v := .int .i64 buf) rfl
  have j1 := kl1.cell 1 (v := .int .i64 line) rfl
  have j2 := kl1.cell 2 (v := .int .i64 run) rfl
  clear hst hm ha hi hb1 kl1 kr1 hs1 hg
  unfold jobV at *
  go_enter Tryz.func6, Tryz.ntmps6
  go_wp2_with fail
  try rw [hw1]
  refine hrun.mono ?_
  rintro e w2 ⟨ov, ev, st, steps, peak, out, err, rfl, so, se, hq, hb2⟩
  obtain ⟨p1, c1, rfl, -, -⟩ := id so.bs
  obtain ⟨p2, c2, rfl, -, -⟩ := id se.bs
  have hr2 := HR.out.keep hb2 HR.out.lt
  have z0 := hr2.cell 0 (v := .slice none 0 0) rfl
  have y0 := hr2.free 0
  have z1 := hr2.cell 1 (v := .slice none 0 0) rfl
  have y1 := hr2.free 1
  have z2 := hr2.cell 2 (v := .int .i64 0) rfl
  have y2 := hr2.free 2
  have z3 := hr2.cell 3 (v := .slice none 0 0) rfl
  have y3 := hr2.free 3
  have z4 := hr2.cell 4 (v := .int .i64 0) rfl
  have y4 := hr2.free 4
  have z5 := hr2.cell 5 (v := .int .i64 0) rfl
  have y5 := hr2.free 5
  have z6 := hr2.cell 6 (v := .int .i64 0) rfl
  have y6 := hr2.free 6
  obtain ⟨w3, hw3⟩ : ∃ w3, (((((((w2.setCell ⟨w.heap.size + 1, 0, none⟩ (.slice p1 out.length c1)).setCell ⟨w.heap.size + 1, 1, none⟩ (.slice p2 err.length c2)).setCell ⟨w.heap.size + 1, 2, none⟩ (.int .i64 st)).setCell ⟨w.heap.size + 1, 3, none⟩ (.slice none 0 0)).setCell ⟨w.heap.size + 1, 4, none⟩ (.int .i64 steps)).setCell ⟨w.heap.size + 1, 5, none⟩ (.int .i64 peak)).setCell ⟨w.heap.size + 1, 6, none⟩ (.int .i64 0)) = w3 := ⟨_, rfl⟩
  have hr3 : Blk w3 (w.heap.size + 1) #[.slice p1 out.length c1, .slice p2 err.length c2, .int .i64 st, .slice none 0 0, .int .i64 steps, .int .i64 peak, .int .i64 0] 34 := by
    rw [← hw3]
    exact (((((((hr2.set 0 _).set 1 _).set 2 _).set 3 _).set 4 _).set 5 _).set 6 _)
  have hk3 : Kept (fun j => j = w.heap.size + 1) w2 w3 := by
    rw [← hw3]
    exact ((((((((Kept.refl (fun j => j = w.heap.size + 1) w2).setCell (.inl rfl) 0 _).setCell (.inl rfl) 1 _).setCell (.inl rfl) 2 _).setCell (.inl rfl) 3 _).setCell (.inl rfl) 4 _).setCell (.inl rfl) 5 _).setCell (.inl rfl) 6 _)
  have HW3 := Lib.hid hw3
  have HR3 := Lib.hid hr3
  have HK3 := Lib.hid hk3
  have HSO := Lib.hid so
  have HSE := Lib.hid se
  have HB2 := Lib.hid hb2
  have HQ := Lib.hid hq
  clear hrun hr2 hw3 hr3 hk3 so se hb2 hq hw1 hQ
  go_wp2_with fail
  try rw [HW3.out]
  have r0 := HR3.out.cell 0 (v := .slice p1 out.length c1) rfl
  have r1 := HR3.out.cell 1 (v := .slice p2 err.length c2) rfl
  have r2 := HR3.out.cell 2 (v := .int .i64 st) rfl
  have r3 := HR3.out.cell 3 (v := .slice none 0 0) rfl
  have r4 := HR3.out.cell 4 (v := .int .i64 steps) rfl
  have r5 := HR3.out.cell 5 (v := .int .i64 peak) rfl
  have r6 := HR3.out.cell 6 (v := .int .i64 0) rfl
  have hbw : Below w.heap.size w w3 := by
    have a1 := HB.out.size
    have a2 := HB.out.trans (HB2.out.mono a1)
    refine a2.trans ⟨HK3.out.os, HK3.out.tape, HK3.out.output, HK3.out.size, fun k hk => HK3.out.block k (Nat.lt_of_lt_of_le hk a2.size) (by omega)⟩
  have hs1 := HS.out
  have sO : Sl w3 (fun g => w.heap.size ≤ g) (.slice p1 out.length c1) out := (HSO.out.kept HK3.out fun g _ hg e => by have h : w1.heap.size ≤ g := hg; omega).mono fun g _ hg => by have h : w1.heap.size ≤ g := hg; omega
  have sE : Sl w3 (fun g => w.heap.size ≤ g) (.slice p2 err.length c2) err := (HSE.out.kept HK3.out fun g _ hg e => by have h : w1.heap.size ≤ g := hg; omega).mono fun g _ hg => by have h : w1.heap.size ≤ g := hg; omega
  refine bodyPost_ret (v := .tuple #[.agg #[.slice p1 out.length c1, .slice p2 err.length c2, .int .i64 st, .slice none 0 0, .int .i64 steps, .int .i64 peak, .int .i64 0], .bool true]) ?_ rfl ⟨_, _, _, _, _, out, err, rfl, sO, sE, HQ.out, hbw⟩
  simp [results, Tryz.results6, go_sem, r0, r1, r2, r3, r4, r5, r6]

end Go.Proofs.YtbpcfjoebfbjmaaGreatDoor

/-
  The walk of expand's filter, of one distance of stops. Conditions: a distance of at most 255; no backspace; lengths.
-/
namespace Go.Proofs.YtbpcfjoebfbjmaaGreatDoor
open Go.RowKit Go.Shelf Go.Maps

theorem row_off {w w' : World} {base : Nat} {e : TypeId} {size : Nat} {v : Value} {n : Nat} {xs : List Value} {b : Nat} (h : w.ownsRow base e size v n xs) (hk : Kept (fun j => j = b) w w') (hb : v.ownBlock ≠ some b) : w'.ownsRow base e size v n xs :=
  h.kept (row := some b) ⟨hk.os, hk.tape, hk.output, hk.size, fun k hk' hne => hk.block k hk' fun e => hne (by rw [e])⟩ (.inr hb)
theorem Blk.grown {w w' : World} {b : Nat} {cs : Array Value} {t : TypeId} {row : Option Nat} (h : Blk w b cs t) (hg : w.grownBy w' row) (hr : row ≠ some b) : Blk w' b cs t := (hg.block b h.lt fun e => hr e.symm).trans h

theorem nextOf_le (s col : Nat) : Wi.nextOf s col ≤ col + s := by unfold Wi.nextOf; omega
theorem nextOf_gt (s col : Nat) (hs : 1 ≤ s) : col ≤ Wi.nextOf s col := by unfold Wi.nextOf; have := Nat.mod_lt col (show 0 < s by omega); omega
theorem tabCol_le (s col : Nat) (hs : 1 ≤ s) (c : UInt8) : Wi.tabCol s col c ≤ col + s := by
  unfold Wi.tabCol
  split
  · exact nextOf_le s col
  · omega

/-- Where the filter stands. -/
structure ExSt (w wr : World) (s : Nat) (L OUT : Bts) (k col : Nat) (O : Bts) (v : Value) : Prop where
  own : wr.ownsRow w.heap.size 5 1 v O.length (O.map u8V)
  ob : v.ownBlock ≠ some w.heap.size
  blk : Blk wr w.heap.size #[.int .i64 col] 237
  bel : Below w.heap.size w wr
  eq : O ++ Wi.expandF s col (L.drop k) = OUT
  le : col ≤ k * s

theorem ExSt.push {w w4 u1 : World} {s : Nat} {L OUT : Bts} {k c2 : Nat} {O XB : Bts} {v v1 : Value} (hown : u1.ownsRow w.heap.size 5 1 v1 (O.length + XB.length) (O.map u8V ++ XB.map u8V)) (hg : w4.grownBy u1 v.ownBlock) (hv : v1.ownBlock = v.ownBlock ∨ v1.ownBlock = some w4.heap.size) (hob : v.ownBlock ≠ some w.heap.size) (hrow : ∀ j, v.ownBlock = some j → w.heap.size ≤ j)
    (hblk : Blk w4 w.heap.size #[.int .i64 c2] 237) (hbel : Below w.heap.size w w4) (heq : O ++ (XB ++ Wi.expandF s c2 (L.drop (k + 1))) = OUT) (hle : c2 ≤ (k + 1) * s) : ExSt w u1 s L OUT (k + 1) c2 (O ++ XB) v1 where
  own := by rw [List.length_append, List.map_append]; exact hown
  ob := fun e => by
    rcases hv with h | h
    · exact hob (h.symm.trans e)
    · have := hblk.lt
      rw [h] at e
      injection e with e
      omega
  blk := hblk.grown hg hob
  bel := hbel.trans (below_grown hg hrow hbel.size)
  eq := by rw [List.append_assoc]; exact heq
  le := hle
theorem expandF_at (s col : Nat) (L : Bts) (k : Nat) (h : k < L.length) (c : UInt8) (hc : L.getD k 0 = c) : Wi.expandF s col (L.drop k) = (if c = 9 then List.replicate (Wi.nextOf s col - col) 32 else [c]) ++ Wi.expandF s (Wi.tabCol s col c) (L.drop (k + 1)) := by
  have hk : L[k] = c := by rw [← hc, List.getD_eq_getElem?_getD, List.getElem?_eq_getElem h]; rfl
  rw [List.drop_eq_getElem_cons h, hk, Wi.expandF]

set_option maxRecDepth 100000 in
set_option maxHeartbeats 8000000 in
theorem expander1_any (sb b o cc s : Nat) (hs1 : 1 ≤ s) (hs2 : s ≤ 255) (hcc : 1 ≤ cc) (L : Bts) (hl : L.length ≤ 4294967296) (ho : (Wi.expand s L).length ≤ 4294967296) (hm : ∀ c ∈ L, c ≠ 8) (lv : Value) (N : Nat → Prop) (w : World) (hs : SlE w N lv L)
    (c1 : w.cell? ⟨sb, 0, none⟩ = some (.slice (some ⟨b, o, none⟩) 1 cc)) (c2 : w.cell? ⟨b, o, none⟩ = some (.int .i64 s)) :
    Calls Tryz.prog 131 #[lv, .pointer (some ⟨sb, 0, none⟩)] w fun e w' => ∃ v, e = .returned v ∧ SlE w' (fun j => w.heap.size ≤ j) v (Wi.expand s L) ∧ Below w.heap.size w w' := by
  have l1 := World.block_lt_of_cell? _ _ c1
  have l2 := World.block_lt_of_cell? _ _ c2
  obtain ⟨p, c, rfl, hbs⟩ := hs.bs
  obtain ⟨w1, hw1⟩ : ∃ w1, w.alloc (.cells #[.int .i64 0] 237) = w1 := ⟨_, rfl⟩
  have hb1 : Below w.heap.size w w1 := by rw [← hw1]; exact (Below.refl _ _).alloc (Nat.le_refl _) _
  have hst : ExSt w w1 s L (Wi.expand s L) 0 0 [] (.slice none 0 0) :=
    ⟨World.ownsRow_nil _ _ _ _, by simp [Value.ownBlock], by rw [← hw1]; exact Blk.new _ _ _, hb1, rfl, Nat.zero_le _⟩
  generalize hOUT : Wi.expand s L = OUT at *
  have HST := Lib.hid hst
  have H1 := Lib.hid c1
  have H2 := Lib.hid c2
  have HBS := Lib.hid hbs
  have HM := Lib.hid hm
  clear hst c1 c2 hm hbs hOUT hs hb1
  go_enter Tryz.func131, Tryz.ntmps131
  go_wp2_with fail
  try rw [hw1]
  clear hw1
  go_loopw [4, 7, 8, 11] (fun x4 _x7 _x8 i wr => ∃ k col O, k ≤ L.length ∧ i = .int .i64 ((k : Nat) : Int) ∧ Hid (ExSt w wr s L OUT k col O x4)) (fun _ _ _ i _ => L.length - (intOf i).toNat)
  case atStart => exact ⟨0, 0, [], Nat.zero_le _, rfl, HST⟩
  case round =>
    clear HST
    obtain ⟨k, col, O, hk, rfl, HE⟩ := hrel
    by_cases hlt : k < L.length
    · have e1 : decide ((k : Int) < (L.length : Int)) = true := decide_eq_true (by omega)
      obtain ⟨g, q, rfl, hcell⟩ := HBS.out (by omega)
      have hgl := World.block_lt_of_cell? _ _ (hcell 0 (by omega))
      obtain ⟨ch, hch⟩ : ∃ ch, L.getD k 0 = ch := ⟨_, rfl⟩
      have a0 : wr.cell? ⟨g, q + k, none⟩ = some (.int .u8 ch.toNat) := (HE.out.bel.cell (p := ⟨g, q + k, none⟩) hgl).trans (by rw [← hch]; exact hcell k hlt)
      have a1 := HE.out.blk.cell 0 (v := .int .i64 col) rfl
      have a2 : wr.cell? ⟨sb, 0, none⟩ = some (.slice (some ⟨b, o, none⟩) 1 cc) := (HE.out.bel.cell (p := ⟨sb, 0, none⟩) l1).trans H1.out
      have a3 : wr.cell? ⟨b, o, none⟩ = some (.int .i64 s) := (HE.out.bel.cell (p := ⟨b, o, none⟩) l2).trans H2.out
      have hcol : col ≤ 1099511627776 := by have := HE.out.le; have := Nat.mul_le_mul (show k ≤ 4294967296 by omega) hs2; omega
      have h8 : ch ≠ 8 := HM.out ch (by rw [← hch, List.getD_eq_getElem?_getD, List.getElem?_eq_getElem hlt]; exact List.getElem_mem _)
      have htab := tab_any w.heap.size s col hs1 (by omega) hcol ch h8 b o cc hcc wr a3 a1 (HE.out.blk.free 0)
      have heq := HE.out.eq
      rw [expandF_at s col L k hlt ch hch] at heq
      have hle := congrArg List.length heq
      simp only [List.length_append] at hle
      obtain ⟨c2, hc2⟩ : ∃ c2, Wi.tabCol s col ch = c2 := ⟨_, rfl⟩
      rw [hc2] at htab heq
      have hc2l : c2 ≤ (k + 1) * s := by rw [← hc2, Nat.add_mul, Nat.one_mul]; have := tabCol_le s col hs1 ch; have := HE.out.le; omega
      obtain ⟨w2, hw2⟩ : ∃ w2, wr.setCell ⟨w.heap.size, 0, none⟩ (.int .i64 ((c2 : Nat) : Int)) = w2 := ⟨_, rfl⟩
      rw [hw2] at htab
      have hk2 : Kept (fun j => j = w.heap.size) wr w2 := by rw [← hw2]; exact (Kept.refl (fun j => j = w.heap.size) wr).setCell (.inl rfl) 0 _
      have hblk2 : Blk w2 w.heap.size #[.int .i64 c2] 237 := by rw [← hw2]; exact HE.out.blk.set 0 _
      have hown2 := row_off HE.out.own hk2 HE.out.ob
      have hbel2 : Below w.heap.size w w2 := by rw [← hw2]; exact HE.out.bel.setCell (Nat.le_refl _) _
      have s1 := hblk2.cell 0 (v := .int .i64 c2) rfl
      have HB2 := Lib.hid hblk2
      have HO2 := Lib.hid hown2
      have HBE := Lib.hid hbel2
      have HEQ := Lib.hid heq
      have HC2 := Lib.hid hc2l
      have HTC := Lib.hid hc2
      have HLE := Lib.hid hle
      clear hcell hch h8 heq hw2 hk2 hblk2 hown2 hbel2 hc2l hc2 a3 hle
      go_wp2_with fail
      refine htab.mono ?_
      rintro e w3 ⟨⟨vx, rfl⟩, rfl⟩
      clear htab a0 a1 a2
      have hsw : w.heap.size ≤ w3.heap.size := HBE.out.size
      have HOB := Lib.hid HE.out.ob
      have HSW := Lib.hid hsw
      clear hsw
      by_cases h9 : ch = 9
      · have e2 : ((ch.toNat : Int) == 9) = true := by rw [h9]; rfl
        have heq := HEQ.out
        have hle := HLE.out
        rw [if_pos h9] at heq hle
        have htc := HTC.out
        unfold Wi.tabCol at htc
        rw [if_pos h9] at htc
        rw [htc] at heq hle
        have hn1 := nextOf_le s col
        have hn2 := nextOf_gt s col hs1
        rw [htc] at hn1 hn2
        have hbk := blanks_any ((c2 : Int) - col) (by omega) (by omega) w3
        have e3 : ((c2 : Int) - col).toNat = c2 - col := by omega
        rw [e3] at hbk
        have e4 : IntKind.i64.wrap ((c2 : Int) - col) = (c2 : Int) - col := by rw [IntKind.wrap_i64]; omega
        have HLE2 := Lib.hid hle
        have HEQ2 := Lib.hid heq
        clear h9 heq hle htc hn1 hn2 e3
        go_wp2_with fail
        refine hbk.mono ?_
        rintro e w4 ⟨v4, rfl, hs4, hb4⟩
        clear hbk
        obtain ⟨p4, k4, rfl, hbs4⟩ := hs4.bs
        obtain ⟨XB, hXB⟩ : ∃ XB, List.replicate (c2 - col) (32 : UInt8) = XB := ⟨_, rfl⟩
        have heq := HEQ2.out
        have hle := HLE2.out
        rw [hXB] at hbs4 heq hle ⊢
        have hown := row_keep HO2.out hb4
        have hap : O.length + XB.length ≤ 4294967296 := by omega
        have hsw4 : w.heap.size ≤ w4.heap.size := Nat.le_trans HSW.out hb4.size
        have HOWN := Lib.hid hown
        have HBS4 := Lib.hid hbs4
        have HAP := Lib.hid (And.intro hap hsw4)
        have HB4 := Lib.hid hb4
        have HEQ3 := Lib.hid heq
        clear hs4 hb4 hbs4 hXB heq hle hown hap hsw4
        go_wp2_with (at_builtin; refine append_bytes rfl _ _ rfl w.heap.size _ O.length (O.map u8V) (by go_simp) HOWN.out p4 XB k4 (by go_simp) HBS4.out HAP.out.1 HAP.out.2 ?_; intro v1 u1 ho1 hg1 hv1; have HO1 := Lib.hid ho1; have HG1 := Lib.hid hg1; have HV1 := Lib.hid hv1; clear ho1 hg1 hv1 HOWN)
        have hex : ExSt w u1 s L OUT (k + 1) c2 (O ++ XB) v1 := ExSt.push HO1.out HG1.out HV1.out HOB.out (row_blk HE.out.own) (HB2.out.keep HB4.out HB2.out.lt) (HBE.out.trans (HB4.out.mono HSW.out)) HEQ3.out HC2.out
        exact ⟨⟨k + 1, c2, O ++ XB, by omega, by go_num, Lib.hid hex⟩, by simp [intOf]; omega⟩
      · have e2 : ((ch.toNat : Int) == 9) = false := by simpa using u8_lit (n := 9) h9 (by decide)
        have heq := HEQ.out
        have hle := HLE.out
        rw [if_neg h9] at heq hle
        have htc := HTC.out
        rw [htc] at hle
        simp only [List.length_singleton] at hle
        have hb4 : Below w3.heap.size w3 (w3.alloc (.cells #[.int .u8 ch.toNat] 5)) := (Below.refl _ _).alloc (Nat.le_refl _) _
        have hbs4 := bs_one w3 ch 5
        have hown := row_keep HO2.out hb4
        have hap : O.length + ([ch] : Bts).length ≤ 4294967296 := by simp only [List.length_singleton]; omega
        have hsw4 := Nat.le_trans HSW.out hb4.size
        have HOWN := Lib.hid hown
        have HBS4 := Lib.hid hbs4
        have HAP := Lib.hid (And.intro hap hsw4)
        have HB4 := Lib.hid hb4
        have HEQ3 := Lib.hid heq
        clear hb4 hbs4 heq hle hown hap hsw4 h9 htc
        go_wp2_with (at_builtin; refine append_bytes rfl _ _ rfl w.heap.size _ O.length (O.map u8V) (by go_simp) HOWN.out (some ⟨w3.heap.size, 0, none⟩) [ch] 1 (by go_simp) HBS4.out HAP.out.1 HAP.out.2 ?_; intro v1 u1 ho1 hg1 hv1; have HO1 := Lib.hid ho1; have HG1 := Lib.hid hg1; have HV1 := Lib.hid hv1; clear ho1 hg1 hv1 HOWN)
        have hex : ExSt w u1 s L OUT (k + 1) c2 (O ++ [ch]) v1 := ExSt.push HO1.out HG1.out HV1.out HOB.out (row_blk HE.out.own) (HB2.out.keep HB4.out HB2.out.lt) (HBE.out.trans (HB4.out.mono HSW.out)) HEQ3.out HC2.out
        exact ⟨⟨k + 1, c2, O ++ [ch], by omega, by go_num, Lib.hid hex⟩, by simp [intOf]; omega⟩
    · obtain rfl : k = L.length := by omega
      have e1 : decide ((L.length : Int) < (L.length : Int)) = false := by simp
      go_wp2_with fail
      go_ret
      have h1 := HE.out.eq
      rw [List.drop_length, Wi.expandF, List.append_nil] at h1
      subst h1
      exact ⟨_, rfl, row_sle HE.out.own rfl, HE.out.bel⟩

/-- One distance of stops in memory. -/
structure StopsSt (sb b cc s : Nat) (W : World) : Prop where
  blk : Blk W sb #[.slice (some ⟨b, 0, none⟩) 1 cc] 30
  one : W.cell? ⟨b, 0, none⟩ = some (.int .i64 s)
  no : ∀ i n, W.cell? ⟨b, i, none⟩ ≠ some (.int .u8 n)
theorem StopsSt.lt {sb b cc s : Nat} {W : World} (h : StopsSt sb b cc s W) : b < W.heap.size := World.block_lt_of_cell? _ _ h.one
theorem StopsSt.kept {sb b cc s : Nat} {W W' : World} {S : Nat → Prop} (h : StopsSt sb b cc s W) (hk : Kept S W W') (h1 : ¬ S sb) (h2 : ¬ S b) : StopsSt sb b cc s W' where
  blk := h.blk.kept hk h1
  one := (World.cell?_of_block (hk.block b h.lt h2)).trans h.one
  no := fun i n => by rw [World.cell?_of_block (hk.block b h.lt h2)]; exact h.no i n
theorem StopsSt.below {sb b cc s : Nat} {W W' : World} (h : StopsSt sb b cc s W) (hb : Below W.heap.size W W') : StopsSt sb b cc s W' := h.kept (Kept.of_below (S := fun _ => False) hb) id id

theorem expand_filt {B : Nat} (sb b cc s : Nat) (hs1 : 1 ≤ s) (hs2 : s ≤ 255) (hcc : 1 ≤ cc) :
    Filt B 131 #[] #[.pointer (some ⟨sb, 0, none⟩)] (fun j => j = sb ∨ j = b) (Wi.still (Wi.expand s)) (fun _ W => StopsSt sb b cc s W) (fun c => c ≠ 8) where
  keep := fun _ W W' S h hk hS _ => h.kept hk (fun e => hS _ e (.inl rfl)) (fun e => hS _ e (.inr rfl))
  lt := fun _ W h j hj => by
    rcases hj with rfl | rfl
    · exact h.blk.lt
    · exact h.lt
  noByte := fun _ W h j hj => by
    rcases hj with rfl | rfl
    · exact h.blk.noByte1 (by intro n e; cases e)
    · exact h.no
  call := fun _ W lv L h hs hok hl ho => (expander1_any sb b 0 cc s hs1 hs2 hcc L hl ho hok lv _ W hs (h.blk.cell 0 rfl) h.one).mono fun e w' ⟨v, he, hs', hb⟩ =>
    ⟨v, he, hs', h.below hb, Kept.of_below hb⟩

end Go.Proofs.YtbpcfjoebfbjmaaGreatDoor

/-
  The walks of width's run of blanks and of unexpand's filter, of one distance of stops. Conditions: a distance of at most 255; no backspace; lengths.
-/
namespace Go.Proofs.YtbpcfjoebfbjmaaGreatDoor
open Go.RowKit Go.Shelf Go.Maps

theorem nextOf_lt (s col : Nat) (hs : 1 ≤ s) : col < Wi.nextOf s col := by unfold Wi.nextOf; have := Nat.mod_lt col (show 0 < s by omega); omega

/-- Where a run stands. -/
structure RnSt (w wr : World) (s to_ : Nat) (OUT : Bts) (f k : Nat) (O : Bts) (v : Value) : Prop where
  own : wr.ownsRow w.heap.size 5 1 v O.length (O.map u8V)
  bel : Below w.heap.size w wr
  eq : O ++ Wi.runOf s k f to_ = OUT
  le : f ≤ to_
  fuel : to_ - f < k

set_option maxRecDepth 100000 in
set_option maxHeartbeats 8000000 in
theorem run1_any (b o cc s : Nat) (hs1 : 1 ≤ s) (hs2 : s ≤ 255) (hcc : 1 ≤ cc) (P : Bts) (hP : 1 ≤ P.length) (hPl : P.length ≤ 4294967296) (p : Option Addr) (c : Nat) (fr to_ : Nat) (hft : fr ≤ to_) (hto : to_ ≤ 1099511627776) (w : World) (hb : Bs w p P) (ho : (Wi.pieceOf s P fr to_).length ≤ 4294967296)
    (c2 : w.cell? ⟨b, o, none⟩ = some (.int .i64 s)) :
    Calls Tryz.prog 135 #[.slice p P.length c, .int .i64 fr, .int .i64 to_, .slice (some ⟨b, o, none⟩) 1 cc] w fun e w' => ∃ q n, e = .returned (.slice q (Wi.pieceOf s P fr to_).length n) ∧ Bs w' q (Wi.pieceOf s P fr to_) ∧ Below w.heap.size w w' := by
  have l2 := World.block_lt_of_cell? _ _ c2
  by_cases h32 : P = [32]
  · subst h32
    have he : Wi.pieceOf s [32] fr to_ = [32] := by unfold Wi.pieceOf; rw [if_pos rfl]
    rw [he]
    obtain ⟨g, q, rfl, hc⟩ := hb (by simp)
    have a0 := hc 0 (by simp)
    simp only [Nat.add_zero, List.getD_cons_zero] at a0
    have a0 : w.cell? ⟨g, q, none⟩ = some (.int .u8 32) := a0
    have HB := Lib.hid hb
    simp only [List.length_singleton] at *
    clear hc hb he
    go_enter Tryz.func135, Tryz.ntmps135
    go_wp2_with fail
    go_ret
    exact ⟨_, _, rfl, HB.out, Below.refl _ _⟩
  · have he : Wi.pieceOf s P fr to_ = Wi.runOf s (to_ - fr + 1) fr to_ := by unfold Wi.pieceOf; rw [if_neg h32]
    rw [he] at ho ⊢
    clear he
    have hst : RnSt w w s to_ (Wi.runOf s (to_ - fr + 1) fr to_) fr (to_ - fr + 1) [] (.slice none 0 0) := ⟨World.ownsRow_nil _ _ _ _, Below.refl _ _, rfl, hft, by omega⟩
    generalize hOUT : Wi.runOf s (to_ - fr + 1) fr to_ = OUT at *
    have HST := Lib.hid hst
    have H2 := Lib.hid c2
    have key : Calls Tryz.prog 135 #[.slice p P.length c, .int .i64 fr, .int .i64 to_, .slice (some ⟨b, o, none⟩) 1 cc] w fun e w' => ∃ v, e = .returned v ∧ w'.ownsRow w.heap.size 5 1 v OUT.length (OUT.map u8V) ∧ Below w.heap.size w w' := by
      clear hst c2 hOUT
      by_cases h1 : P.length = 1
      · obtain ⟨ch, rfl⟩ : ∃ ch, P = [ch] := List.length_eq_one_iff.1 h1
        obtain ⟨g, q, rfl, hc⟩ := hb (by simp)
        have a0 := hc 0 (by simp)
        simp only [Nat.add_zero, List.getD_cons_zero] at a0
        have hne : ch ≠ 32 := fun e => h32 (by rw [e])
        have e2 : ((ch.toNat : Int) == 32) = false := by simpa using u8_lit (n := 32) hne (by decide)
        simp only [List.length_singleton] at *
        clear hc hb h32 hne h1 hP hPl
        go_enter Tryz.func135, Tryz.ntmps135
        go_wp2_with fail
        go_loopw [1, 9, 10, 11] (fun x1 x9 _x10 _x11 wr => ∃ f k O, x1 = .int .i64 ((f : Nat) : Int) ∧ Hid (RnSt w wr s to_ OUT f k O x9)) (fun x1 _ _ _ _ => to_ - (intOf x1).toNat)
        case atStart => exact ⟨fr, _, [], rfl, HST⟩
        case round =>
          clear HST
          obtain ⟨f, k, O, rfl, HE⟩ := hrel
          obtain ⟨k, rfl⟩ : ∃ k1, k = k1 + 1 := ⟨k - 1, by have := HE.out.fuel; omega⟩
          have hf := HE.out.le
          have a2 : wr.cell? ⟨b, o, none⟩ = some (.int .i64 s) := (HE.out.bel.cell (p := ⟨b, o, none⟩) l2).trans H2.out
          have hn := next_any [(s : Int)] (some ⟨b, o, none⟩) cc (by simpa using hcc) (by simp) (by simp; omega) f (by omega) (by omega) wr (fun _ => ⟨b, o, rfl, World.block_lt_of_cell? _ _ a2, fun i hi => by
            obtain rfl : i = 0 := by simpa using hi
            simpa using a2⟩)
          rw [nextL_one s f hs1 (by omega) (by omega)] at hn
          simp only [List.length_singleton, nextV] at hn
          have heq := HE.out.eq
          rw [Wi.runOf] at heq
          have hlt := nextOf_lt s f hs1
          have hle := nextOf_le s f
          generalize Wi.nextOf s f = nx at *
          have HF := Lib.hid (And.intro hf (And.intro hlt (And.intro hle HE.out.fuel)))
          have HSW := Lib.hid HE.out.bel.size
          by_cases hgt : to_ < nx
          · have e3 : decide (to_ < nx) = true := decide_eq_true hgt
            rw [if_pos hgt] at heq
            have hbk := fun W => blanks_any ((to_ : Int) - f) (by omega) (by omega) W
            have e5 : ((to_ : Int) - f).toNat = to_ - f := by omega
            rw [e5] at hbk
            have e4 : IntKind.i64.wrap ((to_ : Int) - f) = (to_ : Int) - f := by rw [IntKind.wrap_i64]; omega
            have HEQ := Lib.hid heq
            have HBK := Lib.hid hbk
            clear hf hlt hle heq hbk e5 hgt a2
            go_wp2_with fail
            refine hn.mono ?_
            rintro e w3 ⟨rfl, rfl⟩
            clear hn
            go_wp2_with fail
            refine (HBK.out w3).mono ?_
            rintro e w4 ⟨v4, rfl, hs4, hb4⟩
            obtain ⟨p4, k4, rfl, hbs4⟩ := hs4.bs
            obtain ⟨XB, hXB⟩ : ∃ XB, List.replicate (to_ - f) (32 : UInt8) = XB := ⟨_, rfl⟩
            have heq := HEQ.out
            rw [hXB] at hbs4 heq ⊢
            have hle := congrArg List.length heq
            simp only [List.length_append] at hle
            have hown := row_keep HE.out.own hb4
            have hap : O.length + XB.length ≤ 4294967296 := by omega
            have hsw4 : w.heap.size ≤ w4.heap.size := Nat.le_trans HSW.out hb4.size
            have HOWN := Lib.hid hown
            have HBS4 := Lib.hid hbs4
            have HAP := Lib.hid (And.intro hap hsw4)
            have HB4 := Lib.hid hb4
            have HEQ3 := Lib.hid heq
            clear hs4 hb4 hbs4 hXB heq hle hown hap hsw4
            go_wp2_with (at_builtin; refine append_bytes rfl _ _ rfl w.heap.size _ O.length (O.map u8V) (by go_simp) HOWN.out p4 XB k4 (by go_simp) HBS4.out HAP.out.1 HAP.out.2 ?_; intro v1 u1 ho1 hg1 hv1; have HO1 := Lib.hid ho1; have HG1 := Lib.hid hg1; have HV1 := Lib.hid hv1; clear ho1 hg1 hv1 HOWN)
            go_ret
            refine ⟨_, rfl, ?_, (HE.out.bel.trans (HB4.out.mono HSW.out)).trans (below_grown HG1.out (row_blk HE.out.own) HAP.out.2)⟩
            have h1 := HO1.out
            rw [← HEQ3.out, List.length_append, List.map_append]
            exact h1
          · have e3 : decide (to_ < nx) = false := decide_eq_false hgt
            rw [if_neg hgt] at heq
            have hle2 := congrArg List.length heq
            simp only [List.length_append, List.length_cons] at hle2
            have hb4 : Below wr.heap.size wr (wr.alloc (.cells #[.int .u8 9] 5)) := (Below.refl _ _).alloc (Nat.le_refl _) _
            have hbs4 := bs_one wr 9 5
            have hown := row_keep HE.out.own hb4
            have hap : O.length + ([9] : Bts).length ≤ 4294967296 := by simp only [List.length_singleton]; omega
            have hsw4 := Nat.le_trans HSW.out hb4.size
            have HOWN := Lib.hid hown
            have HBS4 := Lib.hid hbs4
            have HAP := Lib.hid (And.intro hap hsw4)
            have HB4 := Lib.hid hb4
            have HEQ3 := Lib.hid heq
            have HGT := Lib.hid hgt
            clear hb4 hbs4 heq hle hown hap hsw4 hgt hle2 a2 hf hlt
            go_wp2_with fail
            refine hn.mono ?_
            rintro e w3 ⟨rfl, rfl⟩
            clear hn
            go_wp2_with (at_builtin; refine append_bytes rfl _ _ rfl w.heap.size _ O.length (O.map u8V) (by go_simp) HOWN.out (some ⟨w3.heap.size, 0, none⟩) [9] 1 (by go_simp) HBS4.out HAP.out.1 HAP.out.2 ?_; intro v1 u1 ho1 hg1 hv1; have HO1 := Lib.hid ho1; have HG1 := Lib.hid hg1; have HV1 := Lib.hid hv1; clear ho1 hg1 hv1 HOWN)
            have hfa := HF.out
            have hga := HGT.out
            have hrn : RnSt w u1 s to_ OUT nx k (O ++ [9]) v1 := ⟨by rw [List.length_append, List.map_append]; exact HO1.out, (HE.out.bel.trans (HB4.out.mono HSW.out)).trans (below_grown HG1.out (row_blk HE.out.own) HAP.out.2), by rw [List.append_assoc]; exact HEQ3.out, by omega, by omega⟩
            exact ⟨⟨nx, k, O ++ [9], rfl, Lib.hid hrn⟩, by simp [intOf]; omega⟩
      · have e2 : ((P.length : Int) == 1) = false := by simp; omega
        clear hb h32 h1
        go_enter Tryz.func135, Tryz.ntmps135
        go_wp2_with fail
        go_loopw [1, 9, 10, 11] (fun x1 x9 _x10 _x11 wr => ∃ f k O, x1 = .int .i64 ((f : Nat) : Int) ∧ Hid (RnSt w wr s to_ OUT f k O x9)) (fun x1 _ _ _ _ => to_ - (intOf x1).toNat)
        case atStart => exact ⟨fr, _, [], rfl, HST⟩
        case round =>
          clear HST
          obtain ⟨f, k, O, rfl, HE⟩ := hrel
          obtain ⟨k, rfl⟩ : ∃ k1, k = k1 + 1 := ⟨k - 1, by have := HE.out.fuel; omega⟩
          have hf := HE.out.le
          have a2 : wr.cell? ⟨b, o, none⟩ = some (.int .i64 s) := (HE.out.bel.cell (p := ⟨b, o, none⟩) l2).trans H2.out
          have hn := next_any [(s : Int)] (some ⟨b, o, none⟩) cc (by simpa using hcc) (by simp) (by simp; omega) f (by omega) (by omega) wr (fun _ => ⟨b, o, rfl, World.block_lt_of_cell? _ _ a2, fun i hi => by
            obtain rfl : i = 0 := by simpa using hi
            simpa using a2⟩)
          rw [nextL_one s f hs1 (by omega) (by omega)] at hn
          simp only [List.length_singleton, nextV] at hn
          have heq := HE.out.eq
          rw [Wi.runOf] at heq
          have hlt := nextOf_lt s f hs1
          have hle := nextOf_le s f
          generalize Wi.nextOf s f = nx at *
          have HF := Lib.hid (And.intro hf (And.intro hlt (And.intro hle HE.out.fuel)))
          have HSW := Lib.hid HE.out.bel.size
          by_cases hgt : to_ < nx
          · have e3 : decide (to_ < nx) = true := decide_eq_true hgt
            rw [if_pos hgt] at heq
            have hbk := fun W => blanks_any ((to_ : Int) - f) (by omega) (by omega) W
            have e5 : ((to_ : Int) - f).toNat = to_ - f := by omega
            rw [e5] at hbk
            have e4 : IntKind.i64.wrap ((to_ : Int) - f) = (to_ : Int) - f := by rw [IntKind.wrap_i64]; omega
            have HEQ := Lib.hid heq
            have HBK := Lib.hid hbk
            clear hf hlt hle heq hbk e5 hgt a2
            go_wp2_with fail
            refine hn.mono ?_
            rintro e w3 ⟨rfl, rfl⟩
            clear hn
            go_wp2_with fail
            refine (HBK.out w3).mono ?_
            rintro e w4 ⟨v4, rfl, hs4, hb4⟩
            obtain ⟨p4, k4, rfl, hbs4⟩ := hs4.bs
            obtain ⟨XB, hXB⟩ : ∃ XB, List.replicate (to_ - f) (32 : UInt8) = XB := ⟨_, rfl⟩
            have heq := HEQ.out
            rw [hXB] at hbs4 heq ⊢
            have hle := congrArg List.length heq
            simp only [List.length_append] at hle
            have hown := row_keep HE.out.own hb4
            have hap : O.length + XB.length ≤ 4294967296 := by omega
            have hsw4 : w.heap.size ≤ w4.heap.size := Nat.le_trans HSW.out hb4.size
            have HOWN := Lib.hid hown
            have HBS4 := Lib.hid hbs4
            have HAP := Lib.hid (And.intro hap hsw4)
            have HB4 := Lib.hid hb4
            have HEQ3 := Lib.hid heq
            clear hs4 hb4 hbs4 hXB heq hle hown hap hsw4
            go_wp2_with (at_builtin; refine append_bytes rfl _ _ rfl w.heap.size _ O.length (O.map u8V) (by go_simp) HOWN.out p4 XB k4 (by go_simp) HBS4.out HAP.out.1 HAP.out.2 ?_; intro v1 u1 ho1 hg1 hv1; have HO1 := Lib.hid ho1; have HG1 := Lib.hid hg1; have HV1 := Lib.hid hv1; clear ho1 hg1 hv1 HOWN)
            go_ret
            refine ⟨_, rfl, ?_, (HE.out.bel.trans (HB4.out.mono HSW.out)).trans (below_grown HG1.out (row_blk HE.out.own) HAP.out.2)⟩
            have h1 := HO1.out
            rw [← HEQ3.out, List.length_append, List.map_append]
            exact h1
          · have e3 : decide (to_ < nx) = false := decide_eq_false hgt
            rw [if_neg hgt] at heq
            have hle2 := congrArg List.length heq
            simp only [List.length_append, List.length_cons] at hle2
            have hb4 : Below wr.heap.size wr (wr.alloc (.cells #[.int .u8 9] 5)) := (Below.refl _ _).alloc (Nat.le_refl _) _
            have hbs4 := bs_one wr 9 5
            have hown := row_keep HE.out.own hb4
            have hap : O.length + ([9] : Bts).length ≤ 4294967296 := by simp only [List.length_singleton]; omega
            have hsw4 := Nat.le_trans HSW.out hb4.size
            have HOWN := Lib.hid hown
            have HBS4 := Lib.hid hbs4
            have HAP := Lib.hid (And.intro hap hsw4)
            have HB4 := Lib.hid hb4
            have HEQ3 := Lib.hid heq
            have HGT := Lib.hid hgt
            clear hb4 hbs4 heq hle hown hap hsw4 hgt hle2 a2 hf hlt
            go_wp2_with fail
            refine hn.mono ?_
            rintro e w3 ⟨rfl, rfl⟩
            clear hn
            go_wp2_with (at_builtin; refine append_bytes rfl _ _ rfl w.heap.size _ O.length (O.map u8V) (by go_simp) HOWN.out (some ⟨w3.heap.size, 0, none⟩) [9] 1 (by go_simp) HBS4.out HAP.out.1 HAP.out.2 ?_; intro v1 u1 ho1 hg1 hv1; have HO1 := Lib.hid ho1; have HG1 := Lib.hid hg1; have HV1 := Lib.hid hv1; clear ho1 hg1 hv1 HOWN)
            have hfa := HF.out
            have hga := HGT.out
            have hrn : RnSt w u1 s to_ OUT nx k (O ++ [9]) v1 := ⟨by rw [List.length_append, List.map_append]; exact HO1.out, (HE.out.bel.trans (HB4.out.mono HSW.out)).trans (below_grown HG1.out (row_blk HE.out.own) HAP.out.2), by rw [List.append_assoc]; exact HEQ3.out, by omega, by omega⟩
            exact ⟨⟨nx, k, O ++ [9], rfl, Lib.hid hrn⟩, by simp [intOf]; omega⟩
    refine key.mono ?_
    rintro e w' ⟨v, rfl, hown, hbel⟩
    obtain ⟨q, n, rfl, hbs⟩ := bs_of_own hown
    exact ⟨q, n, rfl, hbs, hbel⟩

end Go.Proofs.YtbpcfjoebfbjmaaGreatDoor
