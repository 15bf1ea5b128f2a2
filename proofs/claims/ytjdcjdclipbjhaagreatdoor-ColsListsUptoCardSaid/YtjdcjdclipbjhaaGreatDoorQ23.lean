/-
  Texts of this seat put together: C20, C21, C22.
-/
import Derived.Test.YtjdcjdclipbjhaaGreatDoorQ12
import Derived.Test.YtjdcjdclipbjhaaGreatDoorQ21
import Derived.Test.YtjdcjdclipbjhaaGreatDoorQ22
import Derived.Test.YtjdcjdclipbjhaaGreatDoorQ7

/-
  The walks of cols' Start and Run; the runs of the chapter's examples. Conditions: a job without nodes; what Start's machine does (Starts).
-/
namespace Go.Proofs.YtjdcjdclipbjhaaGreatDoor
open Go.RowKit Go.Shelf Go.Maps

set_option maxRecDepth 100000 in
set_option maxHeartbeats 2000000 in
theorem start_cut (F : Fx) (M : Nat → Prop) (inp : Bts) (rest : List Bts) (ha : F.args = [99, 117, 116] :: rest) (w : World) (h : PrAt w F M inp [] []) :
    Calls Tryz.prog 25 #[.pointer (some ⟨F.p, 0, none⟩)] w fun e w' => ∃ mb, e = .returned (.pointer (some ⟨mb, 0, none⟩)) ∧ w.heap.size ≤ mb ∧ MachAt w' mb F.p 55 false 0 ∧ Below w.heap.size w w' := by
  have hargs := args_any F M inp [] [] w h
  rw [ha] at hargs
  have H := Lib.hid h
  clear h
  go_enter Tryz.func25, Tryz.ntmps25
  go_wp2_with fail
  refine hargs.mono ?_
  rintro e w1 ⟨v, rfl, ho1, hb1⟩
  clear hargs
  obtain ⟨g, c, rfl, -, -, -, hc⟩ := strs_cell ho1 0 (by simp)
  have c0 := hc 0 (by simp)
  simp only [List.getD_cons_zero, strV] at c0
  have hlen : (0 : Int) < (([99, 117, 116] :: rest : List Bts).length : Nat) := by simp
  have hgo := go_any F M inp [] [] 55 w1 (H.out.below hb1)
  have HB := Lib.hid hb1
  clear ho1 hb1 hc
  go_wp2_with fail
  refine hgo.mono ?_
  rintro e w2 ⟨rfl, hma, hb2⟩
  have HM := Lib.hid hma
  have HB2 := Lib.hid hb2
  clear hgo hma hb2
  go_wp2_with fail
  go_ret
  exact ⟨_, rfl, HB.out.size, HM.out, HB.out.trans (HB2.out.mono HB.out.size)⟩

set_option maxRecDepth 100000 in
set_option maxHeartbeats 2000000 in
theorem start_paste (F : Fx) (M : Nat → Prop) (inp : Bts) (rest : List Bts) (ha : F.args = [112, 97, 115, 116, 101] :: rest) (w : World) (h : PrAt w F M inp [] []) :
    Calls Tryz.prog 25 #[.pointer (some ⟨F.p, 0, none⟩)] w fun e w' => ∃ mb, e = .returned (.pointer (some ⟨mb, 0, none⟩)) ∧ w.heap.size ≤ mb ∧ MachAt w' mb F.p 56 false 0 ∧ Below w.heap.size w w' := by
  have hargs := args_any F M inp [] [] w h
  rw [ha] at hargs
  have H := Lib.hid h
  clear h
  go_enter Tryz.func25, Tryz.ntmps25
  go_wp2_with fail
  refine hargs.mono ?_
  rintro e w1 ⟨v, rfl, ho1, hb1⟩
  clear hargs
  obtain ⟨g, c, rfl, -, -, -, hc⟩ := strs_cell ho1 0 (by simp)
  have c0 := hc 0 (by simp)
  simp only [List.getD_cons_zero, strV] at c0
  have hlen : (0 : Int) < (([112, 97, 115, 116, 101] :: rest : List Bts).length : Nat) := by simp
  have hgo := go_any F M inp [] [] 56 w1 (H.out.below hb1)
  have HB := Lib.hid hb1
  clear ho1 hb1 hc
  go_wp2_with fail
  refine hgo.mono ?_
  rintro e w2 ⟨rfl, hma, hb2⟩
  have HM := Lib.hid hma
  have HB2 := Lib.hid hb2
  clear hgo hma hb2
  go_wp2_with fail
  go_ret
  exact ⟨_, rfl, HB.out.size, HM.out, HB.out.trans (HB2.out.mono HB.out.size)⟩

set_option maxRecDepth 100000 in
set_option maxHeartbeats 8000000 in
theorem colsRun_any (l : List Bts) (hne : l ≠ []) (hll : l.length < 1073741824) (pa : Option Addr) (ca : Nat) (pi : Option Addr) (ci : Nat) (inp : Bts) (hin : inp.length ≤ 4294967296) (buf line run : Nat) (h1 : 1 ≤ buf) (h2 : 1 ≤ line) (h3 : line ≤ run) (h4 : run ≤ 1099511627776) (h5 : buf ≤ 1099511627776)
    (Q : Int → Bts → Bts → Prop) (m : Int) (w : World) (hst : ∀ w1, Below w.heap.size w w1 → Starts w1 25 l buf line run inp Q) (hQ : ∀ st o e, Q st o e → o.length ≤ 4294967296 ∧ e.length ≤ 4294967296) (hm : w.cell? ⟨0, 0, none⟩ = some (.int .i64 m)) (ha : Ss w pa l) (hi : Bs w pi inp) :
    Calls Tryz.prog 11 #[jobV (.slice pa l.length ca) (.slice pi inp.length ci) buf line run] w fun e w' => ∃ ov ev st steps peak out err, e = .returned (.tuple #[.agg #[ov, ev, .int .i64 st, .slice none 0 0, .int .i64 steps, .int .i64 peak, .int .i64 0], .bool true]) ∧ Sl w' (fun g => w.heap.size ≤ g) ov out ∧ Sl w' (fun g => w.heap.size ≤ g) ev err ∧ Q st out err ∧ Below w.heap.size w w' := by
  have hsg : ∀ (args : Array Value) (w : World), (callFunc 25 args).run Tryz.prog w = .ok (.enter 25 args) w := enters_of Tryz.func25 (by kernel_rfl) rfl
  obtain ⟨w1, hw1⟩ : ∃ w1, (w.alloc (.cells #[.slice pa l.length ca, .slice none 0 0, .string ⟨#[]⟩, .slice pi inp.length ci, .slice none 0 0, .int .i64 buf, .int .i64 line, .int .i64 run, .slice none 0 0, .int .i64 0, .slice none 0 0] 42)).alloc (.cells #[.slice none 0 0, .slice none 0 0, .int .i64 0, .slice none 0 0, .int .i64 0, .int .i64 0, .int .i64 0] 45) = w1 := ⟨_, rfl⟩
  have hb1 : Below w.heap.size w w1 := by rw [← hw1]; exact ((Below.refl _ _).alloc (Nat.le_refl _) _).alloc (by simp) _
  have kj1 : Blk w1 w.heap.size #[.slice pa l.length ca, .slice none 0 0, .string ⟨#[]⟩, .slice pi inp.length ci, .slice none 0 0, .int .i64 buf, .int .i64 line, .int .i64 run, .slice none 0 0, .int .i64 0, .slice none 0 0] 42 := by rw [← hw1]; exact (Blk.new _ _ _).alloc _
  have kr1 : Blk w1 (w.heap.size + 1) #[.slice none 0 0, .slice none 0 0, .int .i64 0, .slice none 0 0, .int .i64 0, .int .i64 0, .int .i64 0] 45 := by
    rw [← hw1]
    have := Blk.new (w.alloc (.cells #[.slice pa l.length ca, .slice none 0 0, .string ⟨#[]⟩, .slice pi inp.length ci, .slice none 0 0, .int .i64 buf, .int .i64 line, .int .i64 run, .slice none 0 0, .int .i64 0, .slice none 0 0] 42)) #[.slice none 0 0, .slice none 0 0, .int .i64 0, .slice none 0 0, .int .i64 0, .int .i64 0, .int .i64 0] 45
    simpa only [World.size_alloc] using this
  have hs1 : w1.heap.size = w.heap.size + 1 + 1 := by rw [← hw1]; simp
  have hrun := run_any l hne hll pa ca pi ci inp hin buf line run h1 h2 h3 h4 h5 _ hsg Q m w1 (hst w1 hb1) hQ ((hb1.cell (p := ⟨0, 0, none⟩) (World.block_lt_of_cell? _ _ hm)).trans hm) (ha.below hb1) (hi.below hb1 (Nat.le_refl _))
  have HB := Lib.hid hb1
  have HR := Lib.hid kr1
  have HS := Lib.hid hs1
  have j0 := kj1.cell 0 (v := .slice pa l.length ca) rfl
  have j1 := kj1.cell 1 (v := .slice none 0 0) rfl
  have j2 := kj1.cell 2 (v := .string ⟨#[]⟩) rfl
  have j3 := kj1.cell 3 (v := .slice pi inp.length ci) rfl
  have j4 := kj1.cell 4 (v := .slice none 0 0) rfl
  have j5 := kj1.cell 5 (v := .int .i64 buf) rfl
  have j6 := kj1.cell 6 (v := .int .i64 line) rfl
  have j7 := kj1.cell 7 (v := .int .i64 run) rfl
  have j8 := kj1.cell 8 (v := .slice none 0 0) rfl
  have j9 := kj1.cell 9 (v := .int .i64 0) rfl
  have j10 := kj1.cell 10 (v := .slice none 0 0) rfl
  clear hst hm ha hi hb1 kj1 kr1 hsg hs1
  unfold jobV at *
  go_enter Tryz.func11, Tryz.ntmps11
  go_wp2_with fail
  try rw [hw1]
  refine hrun.mono ?_
  rintro e w2 ⟨ov, ev, st, steps, peak, out, err, rfl, so, se, hq, hb2⟩
  obtain ⟨p1, c1, rfl, -, -⟩ := id so.bs
  obtain ⟨p2, c2, rfl, -, -⟩ := id se.bs
  have hr2 := HR.out.keep hb2 HR.out.lt
  have z0 := hr2.cell 0 (v := .slice none 0 0) rfl
  have y0 := hr2.free 0
  have z1 := hr2.cell 1 (v := .slice none 0 0) rfl
  have y1 := hr2.free 1
  have z2 := hr2.cell 2 (v := .int .i64 0) rfl
  have y2 := hr2.free 2
  have z3 := hr2.cell 3 (v := .slice none 0 0) rfl
  have y3 := hr2.free 3
  have z4 := hr2.cell 4 (v := .int .i64 0) rfl
  have y4 := hr2.free 4
  have z5 := hr2.cell 5 (v := .int .i64 0) rfl
  have y5 := hr2.free 5
  have z6 := hr2.cell 6 (v := .int .i64 0) rfl
  have y6 := hr2.free 6
  obtain ⟨w3, hw3⟩ : ∃ w3, (((((((w2.setCell ⟨w.heap.size + 1, 0, none⟩ (.slice p1 out.length c1)).setCell ⟨w.heap.size + 1, 1, none⟩ (.slice p2 err.length c2)).setCell ⟨w.heap.size + 1, 2, none⟩ (.int .i64 st)).setCell ⟨w.heap.size + 1, 3, none⟩ (.slice none 0 0)).setCell ⟨w.heap.size + 1, 4, none⟩ (.int .i64 steps)).setCell ⟨w.heap.size + 1, 5, none⟩ (.int .i64 peak)).setCell ⟨w.heap.size + 1, 6, none⟩ (.int .i64 0)) = w3 := ⟨_, rfl⟩
  have hr3 : Blk w3 (w.heap.size + 1) #[.slice p1 out.length c1, .slice p2 err.length c2, .int .i64 st, .slice none 0 0, .int .i64 steps, .int .i64 peak, .int .i64 0] 45 := by
    rw [← hw3]
    exact (((((((hr2.set 0 _).set 1 _).set 2 _).set 3 _).set 4 _).set 5 _).set 6 _)
  have hk3 : Kept (fun j => j = w.heap.size + 1) w2 w3 := by
    rw [← hw3]
    exact ((((((((Kept.refl (fun j => j = w.heap.size + 1) w2).setCell (.inl rfl) 0 _).setCell (.inl rfl) 1 _).setCell (.inl rfl) 2 _).setCell (.inl rfl) 3 _).setCell (.inl rfl) 4 _).setCell (.inl rfl) 5 _).setCell (.inl rfl) 6 _)
  have HW3 := Lib.hid hw3
  have HR3 := Lib.hid hr3
  have HK3 := Lib.hid hk3
  have HSO := Lib.hid so
  have HSE := Lib.hid se
  have HB2 := Lib.hid hb2
  have HQ := Lib.hid hq
  clear hrun hr2 hw3 hr3 hk3 so se hb2 hq hw1 hQ
  go_wp2_with fail
  try rw [HW3.out]
  have r0 := HR3.out.cell 0 (v := .slice p1 out.length c1) rfl
  have r1 := HR3.out.cell 1 (v := .slice p2 err.length c2) rfl
  have r2 := HR3.out.cell 2 (v := .int .i64 st) rfl
  have r3 := HR3.out.cell 3 (v := .slice none 0 0) rfl
  have r4 := HR3.out.cell 4 (v := .int .i64 steps) rfl
  have r5 := HR3.out.cell 5 (v := .int .i64 peak) rfl
  have r6 := HR3.out.cell 6 (v := .int .i64 0) rfl
  have hbw : Below w.heap.size w w3 := by
    have a1 := HB.out.size
    have a2 := HB.out.trans (HB2.out.mono a1)
    refine a2.trans ⟨HK3.out.os, HK3.out.tape, HK3.out.output, HK3.out.size, fun k hk => HK3.out.block k (Nat.lt_of_lt_of_le hk a2.size) (by omega)⟩
  have hs1 := HS.out
  have sO : Sl w3 (fun g => w.heap.size ≤ g) (.slice p1 out.length c1) out := (HSO.out.kept HK3.out fun g _ hg e => by have h : w1.heap.size ≤ g := hg; omega).mono fun g _ hg => by have h : w1.heap.size ≤ g := hg; omega
  have sE : Sl w3 (fun g => w.heap.size ≤ g) (.slice p2 err.length c2) err := (HSE.out.kept HK3.out fun g _ hg e => by have h : w1.heap.size ≤ g := hg; omega).mono fun g _ hg => by have h : w1.heap.size ≤ g := hg; omega
  refine bodyPost_ret (v := .tuple #[.agg #[.slice p1 out.length c1, .slice p2 err.length c2, .int .i64 st, .slice none 0 0, .int .i64 steps, .int .i64 peak, .int .i64 0], .bool true]) ?_ rfl ⟨_, _, _, _, _, out, err, rfl, sO, sE, HQ.out, hbw⟩
  simp [results, Tryz.results11, go_sem, r0, r1, r2, r3, r4, r5, r6]


/-- What these jobs end with. -/
def EndC (out : Bts) (st : Int) (o e : Bts) : Prop := st = 0 ∧ o = out ∧ e = []
theorem EndC.of {F : Fx} {M : Nat → Prop} {out : Bts} {W W' : World} {e : Ending} (h : MainC F M out W e W') : ∃ st inp' out' err' M', e = .returned (.int .i64 st) ∧ PrAt W' F M' inp' out' err' ∧ Mv M M' W W' ∧ EndC out st out' err' := by
  obtain ⟨inp', M', he, hp, hm⟩ := h
  exact ⟨_, inp', _, _, M', he, hp, hm, rfl, rfl, rfl⟩
/-- What a run of a job comes to. -/
def RunC (args : List Bts) (inp out : Bts) : Prop := ∀ (W : World) (pa : Option Addr) (ca : Nat) (pi : Option Addr) (ci : Nat), Glo W → Ss W pa args → Bs W pi inp →
  Calls Tryz.prog 11 #[jobV (.slice pa args.length ca) (.slice pi inp.length ci) 3 9 9] W fun e w' => ∃ ov ev steps peak, e = .returned (.tuple #[.agg #[ov, ev, .int .i64 0, .slice none 0 0, .int .i64 steps, .int .i64 peak, .int .i64 0], .bool true]) ∧ Sl w' (fun g => W.heap.size ≤ g) ov out ∧ Sl w' (fun g => W.heap.size ≤ g) ev [] ∧ Below W.heap.size W w'
theorem runC_of (args : List Bts) (hne : args ≠ []) (hll : args.length < 1073741824) (inp out : Bts) (hin : inp.length ≤ 4294967296) (ho : out.length ≤ 4294967296)
    (hst : ∀ w1, Glo w1 → Starts w1 25 args 3 9 9 inp (EndC out)) : RunC args inp out := by
  intro W pa ca pi ci hg ha hi
  obtain ⟨m, hm⟩ := hg.mx
  refine (colsRun_any args hne hll pa ca pi ci inp hin 3 9 9 (by decide) (by decide) (by decide) (by decide) (by decide) (EndC out) m W (fun w1 hb => hst w1 (hg.below hb)) (fun st o e h => by obtain ⟨-, rfl, rfl⟩ := h; exact ⟨ho, by simp⟩) hm ha hi).mono ?_
  rintro e w' ⟨ov, ev, st, steps, peak, o, er, rfl, so, se, ⟨rfl, rfl, rfl⟩, hb⟩
  exact ⟨ov, ev, steps, peak, rfl, so, se, hb⟩

/-! The four examples. -/
def cutF1 (bs : Bts) : Bts := if bs = [97, 58, 98, 58, 99] then [98] else bs
theorem ok_chars (l : List Co.Spn) (hl : l.length ≤ 1073741824) : CutOk false none l (sel l 0) (fun _ => True) := by
  intro q cap w v N bs hsp _ hb _ _ hlen
  obtain ⟨p, c, rfl, hbs, -⟩ := hb.bs
  exact lineChars_any l q cap hl false 9 p c bs hlen w hsp hbs
theorem ok_fields : CutOk true (some 58) [(2, 2)] cutF1 (fun bs => bs = [97, 58, 98, 58, 99] ∨ Lib.indexByte bs 58 < 0) := by
  intro q cap w v N bs hsp hg hb hcv hP _
  by_cases h : bs = [97, 58, 98, 58, 99]
  · subst h
    exact line5_any q cap v N w hsp hb hcv hg
  · have e : cutF1 bs = bs := if_neg h
    rw [e]
    exact lineBare_any (.slice q 1 cap) 58 v N bs (hP.resolve_left h) w hb

theorem ex_a : RunC [[99, 117, 116], [45, 99], [50, 45, 44, 49]] [97, 98, 99, 10] [97, 98, 99, 10] := by
  refine runC_of _ (by simp) (by decide) _ _ (by decide) (by decide) fun w1 hg F M ha _ hline _ hw0 => ?_
  subst hw0
  have ho : cutF (sel [(2, 2147483647), (1, 1)] 0) 4 [97, 98, 99, 10] = [97, 98, 99, 10] := by decide
  refine ⟨55, enters_of Tryz.func55 (by kernel_rfl) rfl, fun W hW => start_cut F M _ _ ha W hW, fun W hW => ?_⟩
  have h := cut_any F M [97, 98, 99, 10] _ [[45, 99], [50, 45, 44, 49]] ha (by simp) (by decide) [(99, [50, 45, 44, 49])] (by decide) (by decide) false none [(2, 2147483647), (1, 1)] ⟨⟨[50, 45, 44, 49], by decide, by decide +kernel, by decide⟩, by decide, by decide, by decide, by decide, fun h => absurd rfl h⟩ (sel [(2, 2147483647), (1, 1)] 0) (fun _ => True) (ok_chars _ (by decide)) (fun bs => sel_len _ bs 0) (.inr ⟨trivial, .inl rfl⟩) (by rw [hline]; decide) (by decide) hg (by rw [show ([97, 98, 99, 10] : Bts).length = 4 from rfl, ho]; decide) W hW
  rw [show ([97, 98, 99, 10] : Bts).length = 4 from rfl, ho] at h
  exact h.mono fun e w' h => EndC.of h
theorem ex_b : RunC [[99, 117, 116], [45, 100], [58], [45, 102], [50]] [97, 58, 98, 58, 99, 10, 120, 10] [98, 10, 120, 10] := by
  refine runC_of _ (by simp) (by decide) _ _ (by decide) (by decide) fun w1 hg F M ha _ hline _ hw0 => ?_
  subst hw0
  have ho : cutF cutF1 8 [97, 58, 98, 58, 99, 10, 120, 10] = [98, 10, 120, 10] := by decide
  refine ⟨55, enters_of Tryz.func55 (by kernel_rfl) rfl, fun W hW => start_cut F M _ _ ha W hW, fun W hW => ?_⟩
  have h := cut_any F M [97, 58, 98, 58, 99, 10, 120, 10] _ [[45, 100], [58], [45, 102], [50]] ha (by simp) (by decide) [(100, [58]), (102, [50])] (by decide) (by decide) true (some 58) [(2, 2)] ⟨⟨[50], by decide, by decide +kernel, by decide⟩, by decide, by decide, by decide, by decide, fun _ => rfl⟩ cutF1 _ ok_fields (fun bs => by unfold cutF1; split; (· rename_i h; rw [h]; decide); exact Nat.le_refl _) (.inr ⟨.inl rfl, .inr ⟨.inr (by decide), .inl rfl⟩⟩) (by rw [hline]; decide) (by decide) hg (by rw [show ([97, 58, 98, 58, 99, 10, 120, 10] : Bts).length = 8 from rfl, ho]; decide) W hW
  rw [show ([97, 58, 98, 58, 99, 10, 120, 10] : Bts).length = 8 from rfl, ho] at h
  exact h.mono fun e w' h => EndC.of h
theorem ex_c : RunC [[112, 97, 115, 116, 101], [45, 100], [44], [45], [45]] [97, 10, 98, 10, 99, 10] [97, 44, 98, 10, 99, 44, 10] := by
  refine runC_of _ (by simp) (by decide) _ _ (by decide) (by decide) fun w1 hg F M ha _ hline _ hw0 => ?_
  have ho : rndF [44] 6 [97, 10, 98, 10, 99, 10] = [97, 44, 98, 10, 99, 44, 10] := by decide
  refine ⟨56, enters_of Tryz.func56 (by kernel_rfl) rfl, fun W hW => start_paste F M _ _ ha W hW, fun W hW => ?_⟩
  have h := pasteD_any F M [97, 10, 98, 10, 99, 10] _ [[45, 100], [44], [45], [45]] ha (by simp) (by decide) [(100, [44])] (by decide) (by decide) (by decide) (by decide) (by rw [hline]; decide) (by decide) (by rw [show ([97, 10, 98, 10, 99, 10] : Bts).length = 6 from rfl, ho]; decide) W hW
  rw [show ([97, 10, 98, 10, 99, 10] : Bts).length = 6 from rfl, ho] at h
  exact h.mono fun e w' h => EndC.of h
theorem ex_d : RunC [[112, 97, 115, 116, 101], [45, 115]] [97, 10, 98, 10] [97, 9, 98, 10] := by
  refine runC_of _ (by simp) (by decide) _ _ (by decide) (by decide) fun w1 hg F M ha _ hline _ hw0 => ?_
  have ho : rowF [9] 4 true [97, 10, 98, 10] = [97, 9, 98, 10] := by decide
  refine ⟨56, enters_of Tryz.func56 (by kernel_rfl) rfl, fun W hW => start_paste F M _ _ ha W hW, fun W hW => ?_⟩
  have h := pasteS_any F M [97, 10, 98, 10] _ [[45, 115]] ha (by simp) (by decide) [(115, [])] (by decide) (by decide) (by decide) (by decide) (.inr ⟨by decide, .inr ⟨by decide, .inl rfl⟩⟩) (by rw [hline]; decide) (by decide) (by rw [show ([97, 10, 98, 10] : Bts).length = 4 from rfl, ho]; decide) W hW
  rw [show ([97, 10, 98, 10] : Bts).length = 4 from rfl, ho] at h
  exact h.mono fun e w' h => EndC.of h

end Go.Proofs.YtjdcjdclipbjhaaGreatDoor

/-
  The walk of the law's awake: the chapter's examples. Condition: what the library's variables hold.
-/
namespace Go.Proofs.YtjdcjdclipbjhaaGreatDoor
open Go.RowKit Go.Shelf Go.Maps

theorem ss_lit {W : World} {b : Nat} {l : List Bts} {t : TypeId} (h : Blk W b (l.map strV).toArray t) : Ss W (some ⟨b, 0, none⟩) l := fun _ => ⟨b, 0, rfl, fun i hi => by
  rw [Nat.zero_add]
  refine h.cell i ?_
  rw [List.getElem?_toArray, List.getElem?_map, List.getElem?_eq_getElem hi, List.getD_eq_getElem?_getD, List.getElem?_eq_getElem hi]
  rfl⟩
/-- A job's words and bytes, laid ahead of its run. -/
theorem lay_job (W : World) (inp : Bts) (args : List Bts) : Below W.heap.size W ((W.alloc (.cells (args.map strV).toArray 9)).alloc (.cells (inp.map u8V).toArray 5 ((inp.map u8V).toArray.size, (inp.map u8V).toArray.size + 1))) ∧
    Ss ((W.alloc (.cells (args.map strV).toArray 9)).alloc (.cells (inp.map u8V).toArray 5 ((inp.map u8V).toArray.size, (inp.map u8V).toArray.size + 1))) (some ⟨W.heap.size, 0, none⟩) args ∧
    Bs ((W.alloc (.cells (args.map strV).toArray 9)).alloc (.cells (inp.map u8V).toArray 5 ((inp.map u8V).toArray.size, (inp.map u8V).toArray.size + 1))) (some ⟨W.heap.size + 1, 0, none⟩) inp := by
  refine ⟨((Below.refl _ _).alloc (Nat.le_refl _) _).alloc (by simp) _, ss_lit (t := 9) ((Blk.new W _ _).alloc _), bs_lit (t := 5) (f := ((inp.map u8V).toArray.size, (inp.map u8V).toArray.size + 1)) ?_⟩
  have := heap_alloc_new (W.alloc (.cells (args.map strV).toArray 9)) (.cells (inp.map u8V).toArray 5 ((inp.map u8V).toArray.size, (inp.map u8V).toArray.size + 1))
  simpa only [World.size_alloc] using this

set_option maxRecDepth 100000 in
theorem limits_any (w : World) : Calls Tryz.prog 13 #[] w fun e w' => e = .returned (.agg #[.int .i64 3, .int .i64 9, .int .i64 9]) ∧ Below w.heap.size w w' := by
  have hk := Blk.new w #[.int .i64 3, .int .i64 9, .int .i64 9] 35
  have c0 := hk.cell 0 (v := .int .i64 3) rfl
  have c1 := hk.cell 1 (v := .int .i64 9) rfl
  have c2 := hk.cell 2 (v := .int .i64 9) rfl
  have hb : Below w.heap.size w (w.alloc (.cells #[.int .i64 3, .int .i64 9, .int .i64 9] 35)) := (Below.refl _ _).alloc (Nat.le_refl _) _
  clear hk
  go_enter Tryz.func13, Tryz.ntmps13
  go_wp2_with fail
  refine bodyPost_ret (v := .agg #[.int .i64 3, .int .i64 9, .int .i64 9]) ?_ rfl ⟨rfl, hb⟩
  simp [results, Tryz.results13, go_sem, c0, c1, c2]

set_option maxRecDepth 100000 in
set_option maxHeartbeats 8000000 in
theorem awake_any (w : World) (hg : Glo w) : Calls Tryz.prog 6 #[] w fun e w' => e = .returned (.bool true) ∧ Below w.heap.size w w' := by
  have HG := Lib.hid hg
  obtain ⟨w0, hw0⟩ : ∃ w0, w0 = w := ⟨_, rfl⟩
  have HB0 : Hid (Below w.heap.size w w0) := Lib.hid (by rw [hw0]; exact Below.refl _ _)
  have HW : Hid (w0 = w) := Lib.hid hw0
  clear hg hw0
  have hj0 := lay_job w0 [97, 98, 99, 10] [[99, 117, 116], [45, 99], [50, 45, 44, 49]]
  obtain ⟨x0, hx0⟩ : ∃ x, (w0.alloc (.cells #[.string ⟨#[99, 117, 116]⟩, .string ⟨#[45, 99]⟩, .string ⟨#[50, 45, 44, 49]⟩] 9)).alloc (.cells #[.int .u8 97, .int .u8 98, .int .u8 99, .int .u8 10] 5 (4, 5)) = x := ⟨_, rfl⟩
  have hj0' : Below w0.heap.size w0 x0 ∧ Ss x0 (some ⟨w0.heap.size, 0, none⟩) [[99, 117, 116], [45, 99], [50, 45, 44, 49]] ∧ Bs x0 (some ⟨w0.heap.size + 1, 0, none⟩) [97, 98, 99, 10] := by rw [← hx0]; exact hj0
  have HX0 := Lib.hid hx0
  have HJ0 := Lib.hid hj0'
  have hcv0 := Joins.run_convert_bytes_const_at (P := Tryz.prog) (w0.alloc (.cells #[.string ⟨#[99, 117, 116]⟩, .string ⟨#[45, 99]⟩, .string ⟨#[50, 45, 44, 49]⟩] 9)) 33 5 #[.int .u8 97, .int .u8 98, .int .u8 99, .int .u8 10] 4 4 (w0.heap.size + 1) (by simp) Tryz.underlying33 Tryz.underlying5
  have hlm0 := limits_any x0
  clear hj0 hx0 hj0'
  go_enter Tryz.func6, Tryz.ntmps6
  rw [← HW.out]
  go_wp2_with fail
  rw [HX0.out]
  refine hlm0.mono ?_
  rintro e y0 ⟨rfl, hy0⟩
  have HY0 := Lib.hid (HJ0.out.1.trans (hy0.mono HJ0.out.1.size))
  have hrun0 := ex_a y0 (some ⟨w0.heap.size, 0, none⟩) 3 (some ⟨w0.heap.size + 1, 0, none⟩) 4 (HG.out.below (HB0.out.trans (HY0.out.mono HB0.out.size))) (HJ0.out.2.1.below hy0) (HJ0.out.2.2.below hy0 (Nat.le_refl _))
  unfold jobV at hrun0
  clear hlm0 hy0 hcv0
  go_wp2_with fail
  refine hrun0.mono ?_
  rintro e v0 ⟨ov0, ev0, st0, pk0, rfl, so0, se0, hb0⟩
  obtain ⟨p0, c0, ho0, hbs0⟩ := so0.bs
  obtain ⟨q0, d0, he0, -⟩ := se0.bs
  replace ho0 : ov0 = .slice p0 4 c0 := ho0
  replace he0 : ev0 = .slice q0 0 d0 := he0
  subst ho0
  subst he0
  obtain ⟨w1, hw1⟩ : ∃ w', v0.alloc (.cells #[.slice p0 4 c0, .slice q0 0 d0, .int .i64 0, .slice none 0 0, .int .i64 st0, .int .i64 pk0, .int .i64 0] 45) = w' := ⟨_, rfl⟩
  have HS1 := Lib.hid (show Below w0.heap.size w0 w1 by
    rw [← hw1]
    have h2 := HY0.out.trans (hb0.mono HY0.out.size)
    exact h2.alloc h2.size _)
  have HRES0 := Lib.hid (show Blk w1 v0.heap.size #[.slice p0 4 c0, .slice q0 0 d0, .int .i64 0, .slice none 0 0, .int .i64 st0, .int .i64 pk0, .int .i64 0] 45 by rw [← hw1]; exact Blk.new _ _ _)
  have HBS0 := Lib.hid (show Bs w1 p0 [97, 98, 99, 10] by rw [← hw1]; exact hbs0.1.below ((Below.refl _ _).alloc (Nat.le_refl _) _) (Nat.le_refl _))
  have HB1 := Lib.hid (HB0.out.trans (HS1.out.mono HB0.out.size))
  have HW1 := Lib.hid hw1
  clear hrun0 so0 se0 hbs0 hw1 hb0
  go_upto_region 2 with fail
  rw [HW1.out]
  have hj1 := lay_job w1 [97, 58, 98, 58, 99, 10, 120, 10] [[99, 117, 116], [45, 100], [58], [45, 102], [50]]
  obtain ⟨x1, hx1⟩ : ∃ x, (w1.alloc (.cells #[.string ⟨#[99, 117, 116]⟩, .string ⟨#[45, 100]⟩, .string ⟨#[58]⟩, .string ⟨#[45, 102]⟩, .string ⟨#[50]⟩] 9)).alloc (.cells #[.int .u8 97, .int .u8 58, .int .u8 98, .int .u8 58, .int .u8 99, .int .u8 10, .int .u8 120, .int .u8 10] 5 (8, 9)) = x := ⟨_, rfl⟩
  have hj1' : Below w1.heap.size w1 x1 ∧ Ss x1 (some ⟨w1.heap.size, 0, none⟩) [[99, 117, 116], [45, 100], [58], [45, 102], [50]] ∧ Bs x1 (some ⟨w1.heap.size + 1, 0, none⟩) [97, 58, 98, 58, 99, 10, 120, 10] := by rw [← hx1]; exact hj1
  have HX1 := Lib.hid hx1
  have HJ1 := Lib.hid hj1'
  have hcv1 := Joins.run_convert_bytes_const_at (P := Tryz.prog) (w1.alloc (.cells #[.string ⟨#[99, 117, 116]⟩, .string ⟨#[45, 100]⟩, .string ⟨#[58]⟩, .string ⟨#[45, 102]⟩, .string ⟨#[50]⟩] 9)) 33 5 #[.int .u8 97, .int .u8 58, .int .u8 98, .int .u8 58, .int .u8 99, .int .u8 10, .int .u8 120, .int .u8 10] 8 8 (w1.heap.size + 1) (by simp) Tryz.underlying33 Tryz.underlying5
  have hlm1 := limits_any x1
  clear hj1 hx1 hj1'
  skip
  go_wp2_with fail
  rw [HX1.out]
  refine hlm1.mono ?_
  rintro e y1 ⟨rfl, hy1⟩
  have HY1 := Lib.hid (HJ1.out.1.trans (hy1.mono HJ1.out.1.size))
  have hrun1 := ex_b y1 (some ⟨w1.heap.size, 0, none⟩) 5 (some ⟨w1.heap.size + 1, 0, none⟩) 8 (HG.out.below (HB1.out.trans (HY1.out.mono HB1.out.size))) (HJ1.out.2.1.below hy1) (HJ1.out.2.2.below hy1 (Nat.le_refl _))
  unfold jobV at hrun1
  clear hlm1 hy1 hcv1
  go_wp2_with fail
  refine hrun1.mono ?_
  rintro e v1 ⟨ov1, ev1, st1, pk1, rfl, so1, se1, hb1⟩
  obtain ⟨p1, c1, ho1, hbs1⟩ := so1.bs
  obtain ⟨q1, d1, he1, -⟩ := se1.bs
  replace ho1 : ov1 = .slice p1 4 c1 := ho1
  replace he1 : ev1 = .slice q1 0 d1 := he1
  subst ho1
  subst he1
  obtain ⟨w2, hw2⟩ : ∃ w', v1.alloc (.cells #[.slice p1 4 c1, .slice q1 0 d1, .int .i64 0, .slice none 0 0, .int .i64 st1, .int .i64 pk1, .int .i64 0] 45) = w' := ⟨_, rfl⟩
  have HS2 := Lib.hid (show Below w1.heap.size w1 w2 by
    rw [← hw2]
    have h2 := HY1.out.trans (hb1.mono HY1.out.size)
    exact h2.alloc h2.size _)
  have HRES1 := Lib.hid (show Blk w2 v1.heap.size #[.slice p1 4 c1, .slice q1 0 d1, .int .i64 0, .slice none 0 0, .int .i64 st1, .int .i64 pk1, .int .i64 0] 45 by rw [← hw2]; exact Blk.new _ _ _)
  have HBS1 := Lib.hid (show Bs w2 p1 [98, 10, 120, 10] by rw [← hw2]; exact hbs1.1.below ((Below.refl _ _).alloc (Nat.le_refl _) _) (Nat.le_refl _))
  have HB2 := Lib.hid (HB1.out.trans (HS2.out.mono HB1.out.size))
  have HW2 := Lib.hid hw2
  clear hrun1 so1 se1 hbs1 hw2 hb1
  go_upto_region 3 with fail
  rw [HW2.out]
  have hj2 := lay_job w2 [97, 10, 98, 10, 99, 10] [[112, 97, 115, 116, 101], [45, 100], [44], [45], [45]]
  obtain ⟨x2, hx2⟩ : ∃ x, (w2.alloc (.cells #[.string ⟨#[112, 97, 115, 116, 101]⟩, .string ⟨#[45, 100]⟩, .string ⟨#[44]⟩, .string ⟨#[45]⟩, .string ⟨#[45]⟩] 9)).alloc (.cells #[.int .u8 97, .int .u8 10, .int .u8 98, .int .u8 10, .int .u8 99, .int .u8 10] 5 (6, 7)) = x := ⟨_, rfl⟩
  have hj2' : Below w2.heap.size w2 x2 ∧ Ss x2 (some ⟨w2.heap.size, 0, none⟩) [[112, 97, 115, 116, 101], [45, 100], [44], [45], [45]] ∧ Bs x2 (some ⟨w2.heap.size + 1, 0, none⟩) [97, 10, 98, 10, 99, 10] := by rw [← hx2]; exact hj2
  have HX2 := Lib.hid hx2
  have HJ2 := Lib.hid hj2'
  have hcv2 := Joins.run_convert_bytes_const_at (P := Tryz.prog) (w2.alloc (.cells #[.string ⟨#[112, 97, 115, 116, 101]⟩, .string ⟨#[45, 100]⟩, .string ⟨#[44]⟩, .string ⟨#[45]⟩, .string ⟨#[45]⟩] 9)) 33 5 #[.int .u8 97, .int .u8 10, .int .u8 98, .int .u8 10, .int .u8 99, .int .u8 10] 6 6 (w2.heap.size + 1) (by simp) Tryz.underlying33 Tryz.underlying5
  have hlm2 := limits_any x2
  clear hj2 hx2 hj2'
  skip
  go_wp2_with fail
  rw [HX2.out]
  refine hlm2.mono ?_
  rintro e y2 ⟨rfl, hy2⟩
  have HY2 := Lib.hid (HJ2.out.1.trans (hy2.mono HJ2.out.1.size))
  have hrun2 := ex_c y2 (some ⟨w2.heap.size, 0, none⟩) 5 (some ⟨w2.heap.size + 1, 0, none⟩) 6 (HG.out.below (HB2.out.trans (HY2.out.mono HB2.out.size))) (HJ2.out.2.1.below hy2) (HJ2.out.2.2.below hy2 (Nat.le_refl _))
  unfold jobV at hrun2
  clear hlm2 hy2 hcv2
  go_wp2_with fail
  refine hrun2.mono ?_
  rintro e v2 ⟨ov2, ev2, st2, pk2, rfl, so2, se2, hb2⟩
  obtain ⟨p2, c2, ho2, hbs2⟩ := so2.bs
  obtain ⟨q2, d2, he2, -⟩ := se2.bs
  replace ho2 : ov2 = .slice p2 7 c2 := ho2
  replace he2 : ev2 = .slice q2 0 d2 := he2
  subst ho2
  subst he2
  obtain ⟨w3, hw3⟩ : ∃ w', v2.alloc (.cells #[.slice p2 7 c2, .slice q2 0 d2, .int .i64 0, .slice none 0 0, .int .i64 st2, .int .i64 pk2, .int .i64 0] 45) = w' := ⟨_, rfl⟩
  have HS3 := Lib.hid (show Below w2.heap.size w2 w3 by
    rw [← hw3]
    have h2 := HY2.out.trans (hb2.mono HY2.out.size)
    exact h2.alloc h2.size _)
  have HRES2 := Lib.hid (show Blk w3 v2.heap.size #[.slice p2 7 c2, .slice q2 0 d2, .int .i64 0, .slice none 0 0, .int .i64 st2, .int .i64 pk2, .int .i64 0] 45 by rw [← hw3]; exact Blk.new _ _ _)
  have HBS2 := Lib.hid (show Bs w3 p2 [97, 44, 98, 10, 99, 44, 10] by rw [← hw3]; exact hbs2.1.below ((Below.refl _ _).alloc (Nat.le_refl _) _) (Nat.le_refl _))
  have HB3 := Lib.hid (HB2.out.trans (HS3.out.mono HB2.out.size))
  have HW3 := Lib.hid hw3
  clear hrun2 so2 se2 hbs2 hw3 hb2
  go_upto_region 4 with fail
  rw [HW3.out]
  have hj3 := lay_job w3 [97, 10, 98, 10] [[112, 97, 115, 116, 101], [45, 115]]
  obtain ⟨x3, hx3⟩ : ∃ x, (w3.alloc (.cells #[.string ⟨#[112, 97, 115, 116, 101]⟩, .string ⟨#[45, 115]⟩] 9)).alloc (.cells #[.int .u8 97, .int .u8 10, .int .u8 98, .int .u8 10] 5 (4, 5)) = x := ⟨_, rfl⟩
  have hj3' : Below w3.heap.size w3 x3 ∧ Ss x3 (some ⟨w3.heap.size, 0, none⟩) [[112, 97, 115, 116, 101], [45, 115]] ∧ Bs x3 (some ⟨w3.heap.size + 1, 0, none⟩) [97, 10, 98, 10] := by rw [← hx3]; exact hj3
  have HX3 := Lib.hid hx3
  have HJ3 := Lib.hid hj3'
  have hcv3 := Joins.run_convert_bytes_const_at (P := Tryz.prog) (w3.alloc (.cells #[.string ⟨#[112, 97, 115, 116, 101]⟩, .string ⟨#[45, 115]⟩] 9)) 33 5 #[.int .u8 97, .int .u8 10, .int .u8 98, .int .u8 10] 4 4 (w3.heap.size + 1) (by simp) Tryz.underlying33 Tryz.underlying5
  have hlm3 := limits_any x3
  clear hj3 hx3 hj3'
  skip
  go_wp2_with fail
  rw [HX3.out]
  refine hlm3.mono ?_
  rintro e y3 ⟨rfl, hy3⟩
  have HY3 := Lib.hid (HJ3.out.1.trans (hy3.mono HJ3.out.1.size))
  have hrun3 := ex_d y3 (some ⟨w3.heap.size, 0, none⟩) 2 (some ⟨w3.heap.size + 1, 0, none⟩) 4 (HG.out.below (HB3.out.trans (HY3.out.mono HB3.out.size))) (HJ3.out.2.1.below hy3) (HJ3.out.2.2.below hy3 (Nat.le_refl _))
  unfold jobV at hrun3
  clear hlm3 hy3 hcv3
  go_wp2_with fail
  refine hrun3.mono ?_
  rintro e v3 ⟨ov3, ev3, st3, pk3, rfl, so3, se3, hb3⟩
  obtain ⟨p3, c3, ho3, hbs3⟩ := so3.bs
  obtain ⟨q3, d3, he3, -⟩ := se3.bs
  replace ho3 : ov3 = .slice p3 4 c3 := ho3
  replace he3 : ev3 = .slice q3 0 d3 := he3
  subst ho3
  subst he3
  obtain ⟨w4, hw4⟩ : ∃ w', v3.alloc (.cells #[.slice p3 4 c3, .slice q3 0 d3, .int .i64 0, .slice none 0 0, .int .i64 st3, .int .i64 pk3, .int .i64 0] 45) = w' := ⟨_, rfl⟩
  have HS4 := Lib.hid (show Below w3.heap.size w3 w4 by
    rw [← hw4]
    have h2 := HY3.out.trans (hb3.mono HY3.out.size)
    exact h2.alloc h2.size _)
  have HRES3 := Lib.hid (show Blk w4 v3.heap.size #[.slice p3 4 c3, .slice q3 0 d3, .int .i64 0, .slice none 0 0, .int .i64 st3, .int .i64 pk3, .int .i64 0] 45 by rw [← hw4]; exact Blk.new _ _ _)
  have HBS3 := Lib.hid (show Bs w4 p3 [97, 9, 98, 10] by rw [← hw4]; exact hbs3.1.below ((Below.refl _ _).alloc (Nat.le_refl _) _) (Nat.le_refl _))
  have HB4 := Lib.hid (HB3.out.trans (HS4.out.mono HB3.out.size))
  have HW4 := Lib.hid hw4
  clear hrun3 so3 se3 hbs3 hw4 hb3
  go_upto_region 5 with fail
  rw [HW4.out]
  have hli := list_any [49, 44, 51, 45, 52, 32, 45, 50] (by decide) w4 (HG.out.below HB4.out)
  rw [show Co.listOf [49, 44, 51, 45, 52, 32, 45, 50] = some [(1, 1), (3, 4), (1, 2)] by decide +kernel] at hli
  go_wp2_with fail
  refine hli.mono ?_
  rintro e w5 ⟨hb5, hv5⟩
  rcases hv5 with ⟨h, -⟩ | ⟨l, v, he, rfl, ho⟩
  · cases h
  obtain rfl := Option.some.inj he
  obtain ⟨gl, cl, rfl⟩ := own_slice (n := 2) ho
  have l2 : w5.cell? ⟨gl, 2, none⟩ = some (.int .i64 3) := ho.cellAt 2 (by simp)
  have l3 : w5.cell? ⟨gl, 3, none⟩ = some (.int .i64 4) := ho.cellAt 3 (by simp)
  have hx3 : Below w4.heap.size w4 w5 := hb5
  have hx2 : Below w3.heap.size w3 w5 := HS4.out.trans (hx3.mono HS4.out.size)
  have hx1 : Below w2.heap.size w2 w5 := HS3.out.trans (hx2.mono HS3.out.size)
  have hx0 : Below w1.heap.size w1 w5 := HS2.out.trans (hx1.mono HS2.out.size)
  have r0 := (HRES0.out.keep hx0 HRES0.out.lt).cell 0 (v := .slice p0 4 c0) rfl
  have s0 : (convert 33 9 (.slice p0 4 c0)).run Tryz.prog w5 = .ok (.string ⟨#[97, 98, 99, 10]⟩) w5 := run_str (HBS0.out.below hx0 (Nat.le_refl _)) c0
  have r1 := (HRES1.out.keep hx1 HRES1.out.lt).cell 0 (v := .slice p1 4 c1) rfl
  have s1 : (convert 33 9 (.slice p1 4 c1)).run Tryz.prog w5 = .ok (.string ⟨#[98, 10, 120, 10]⟩) w5 := run_str (HBS1.out.below hx1 (Nat.le_refl _)) c1
  have r2 := (HRES2.out.keep hx2 HRES2.out.lt).cell 0 (v := .slice p2 7 c2) rfl
  have s2 : (convert 33 9 (.slice p2 7 c2)).run Tryz.prog w5 = .ok (.string ⟨#[97, 44, 98, 10, 99, 44, 10]⟩) w5 := run_str (HBS2.out.below hx2 (Nat.le_refl _)) c2
  have r3 := (HRES3.out.keep hx3 HRES3.out.lt).cell 0 (v := .slice p3 4 c3) rfl
  have s3 : (convert 33 9 (.slice p3 4 c3)).run Tryz.prog w5 = .ok (.string ⟨#[97, 9, 98, 10]⟩) w5 := run_str (HBS3.out.below hx3 (Nat.le_refl _)) c3
  have HFIN := Lib.hid (HB4.out.trans (hb5.mono HB4.out.size))
  clear hli hb5 he ho hx0 hx1 hx2 hx3
  go_wp2_with fail
  go_ret
  exact ⟨rfl, by rw [HW.out]; exact HFIN.out⟩

end Go.Proofs.YtjdcjdclipbjhaaGreatDoor

/-
  The walk of the law on lists of places. Conditions: lengths; what the library's variables hold.
-/
namespace Go.Proofs.YtjdcjdclipbjhaaGreatDoor
open Go.RowKit Go.Shelf Go.Maps

set_option maxRecDepth 100000 in
set_option maxHeartbeats 8000000 in
theorem lists_any (s : Bts) (hl : s.length < 1073741824) (w : World) (hg : Glo w) :
    Calls Tryz.prog 3 #[.string ⟨s.toArray⟩] w fun e w' => e = .returned (.bool true) ∧ Below w.heap.size w w' := by
  have haw := awake_any w hg
  have HG := Lib.hid hg
  clear hg
  go_enter Tryz.func3, Tryz.ntmps3
  go_wp2_with fail
  refine haw.mono ?_
  rintro e w1 ⟨rfl, hb1⟩
  have hli := list_any s hl w1 (HG.out.below hb1)
  have HB1 := Lib.hid hb1
  clear haw hb1
  go_wp2_with fail
  refine hli.mono ?_
  rintro e w2 ⟨hb2, hp2⟩
  have HB2 := Lib.hid (HB1.out.trans (hb2.mono HB1.out.size))
  have hrl := rlist_any s hl w2
  obtain ⟨R, hR⟩ : ∃ R, Co.listOf s = R := ⟨_, rfl⟩
  rw [hR] at hp2 hrl
  clear hli hb2 hR
  cases R with
  | none =>
    rcases hp2 with ⟨-, rfl⟩ | ⟨L, v, h, -⟩
    · go_wp2_with fail
      refine hrl.mono ?_
      rintro e w3 ⟨hb3, hp3⟩
      rcases hp3 with ⟨-, rfl⟩ | ⟨L, v, h, -⟩
      · have HB3 := Lib.hid (HB2.out.trans (hb3.mono HB2.out.size))
        clear hrl hb3
        go_wp2_with fail
        go_loopw [8] (fun x8 wr => x8 = .int .i64 0 ∧ wr = w3) (fun _ _ => 0)
        case atStart => exact ⟨rfl, rfl⟩
        case round =>
          obtain ⟨rfl, rfl⟩ := hrel
          go_wp2_with fail
          go_ret
          exact ⟨rfl, HB3.out⟩
      · cases h
    · cases h
  | some L =>
    rcases hp2 with ⟨h, -⟩ | ⟨L', v2, h, rfl, ho2⟩
    · cases h
    · injection h with h
      subst h
      obtain ⟨p2, c2, rfl, -, hat2, -⟩ := ho2.at_
      go_wp2_with fail
      refine hrl.mono ?_
      rintro e w3 ⟨hb3, hp3⟩
      rcases hp3 with ⟨h, -⟩ | ⟨L', v3, h, rfl, ho3⟩
      · cases h
      · injection h with h
        subst h
        obtain ⟨p3, c3, rfl, -, hat3, -⟩ := ho3.at_
        have hLm : L.length ≤ maxLen := by
          rcases ho3.2 with ⟨-, h⟩ | ⟨g, cap, cur, -, -, -, h1, h2, -⟩
          · rw [h]; exact Nat.zero_le _
          · exact Nat.le_trans h1 h2
        unfold maxLen at hLm
        have HB3 := Lib.hid (HB2.out.trans (hb3.mono HB2.out.size))
        have HA2 := Lib.hid (hat2.below hb3)
        have HA3 := Lib.hid hat3
        clear hrl hb3 ho2 ho3 hat2 hat3
        go_wp2_with fail
        go_loopw [8] (fun x8 wr => ∃ k : Nat, k ≤ L.length ∧ x8 = .int .i64 k ∧ Hid (Below w3.heap.size w3 wr)) (fun x8 _ => L.length - (intOf x8).toNat)
        case atStart => exact ⟨0, Nat.zero_le _, rfl, Lib.hid (Below.refl _ _)⟩
        case round =>
          obtain ⟨k, hk, rfl, HBL⟩ := hrel
          by_cases hlt : k < L.length
          · obtain ⟨b2, o2, rfl, hl2, hc2⟩ := HA2.out (by omega)
            obtain ⟨b3, o3, rfl, hl3, hc3⟩ := HA3.out (by omega)
            obtain ⟨x, y, hx⟩ : ∃ x y, L.getD k (0, 0) = (x, y) := ⟨_, _, rfl⟩
            have r2 := hc2 k hlt
            have r3 := hc3 k hlt
            rw [hx] at r2 r3
            simp only at r2 r3
            have a0 := (HBL.out.cell (p := ⟨b2, o2 + k * 2, none⟩) hl2).trans r2.1
            have a1 := (HBL.out.cell (p := ⟨b2, o2 + k * 2 + 1, none⟩) hl2).trans r2.2
            have d0 := (HBL.out.cell (p := ⟨b3, o3 + k * 2, none⟩) hl3).trans r3.1
            have d1 := (HBL.out.cell (p := ⟨b3, o3 + k * 2 + 1, none⟩) hl3).trans r3.2
            have g1 : decide ((k : Int) < L.length) = true := by simp; omega
            have g2' : decide (k < L.length) = true := by simp; omega
            have g3' : (0 : Int) ≤ k := by omega
            have g4 : (k : Int) < L.length := by omega
            have g5 : (x != x) = false := by simp
            have g6 : (y != y) = false := by simp
            clear hc2 hc3 r2 r3 hx
            go_upto_region 9 with fail
            go_region
            go_wp2_with fail
            go_roundw
            case rel => exact ⟨k + 1, by omega, by go_num, Lib.hid HBL.out.drew⟩
            case measure => simp [intOf]; omega
          · obtain rfl : k = L.length := by omega
            have g1 : decide ((L.length : Int) < L.length) = false := by simp
            have HFX : Hid (Below w.heap.size w wr) := Lib.hid (HB3.out.trans (HBL.out.mono HB3.out.size))
            go_wp2_with fail
            go_ret
            exact ⟨rfl, HFX.out⟩

end Go.Proofs.YtjdcjdclipbjhaaGreatDoor
