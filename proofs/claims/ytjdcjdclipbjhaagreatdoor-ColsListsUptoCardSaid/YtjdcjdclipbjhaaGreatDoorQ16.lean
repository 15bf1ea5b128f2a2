/-
  Texts of this seat put together: M2, M3, M4, R1, O2.
-/
import Derived.Test.YtjdcjdclipbjhaaGreatDoorQ15
import Derived.WalkMore

/-
  The walk of attempt. Condition on main: what it comes to.
-/
namespace Go.Proofs.YtjdcjdclipbjhaaGreatDoor
open Go.RowKit Go.Shelf Go.Maps

set_option maxRecDepth 100000 in
set_option maxHeartbeats 4000000 in
theorem attempt_any (F : Fx) (M : Nat → Prop) (inp out err : Bts) (g mb : Nat) (st0 : Int) (w : World) (h : PrAt w F M inp out err) (hmb : MachAt w mb F.p g false st0) (hn0 : F.n0 ≤ mb) (hM : ¬ M mb)
    (hent : ∀ (args : Array Value) (w : World), (callFunc g args).run Tryz.prog w = .ok (.enter g args) w) (Q : Int → Bts → Bts → Prop)
    (hmain : ∀ W, PrAt W F M inp out err → Calls Tryz.prog g #[.pointer (some ⟨F.p, 0, none⟩)] W fun e W' => ∃ st inp' out' err' M', e = .returned (.int .i64 st) ∧ PrAt W' F M' inp' out' err' ∧ Mv M M' W W' ∧ Q st out' err') :
    Calls Tryz.prog 83 #[.pointer (some ⟨mb, 0, none⟩)] w fun e w' => e = .returned (.bool true) ∧ ∃ st inp' out' err' M', PrAt w' F M' inp' out' err' ∧ MachAt w' mb F.p g false st ∧ MvR M M' mb w w' ∧ Q st out' err' := by
  have hmf : ∀ (fn : Fn) (first cap : Array Value) (w : World), (Instr.makeFunc fn first cap).run Tryz.prog w = .ok (.func fn first cap) w := fun _ _ _ _ => rfl
  obtain ⟨w1, hw1⟩ : ∃ w1, (w.alloc (.cells #[.pointer (some ⟨mb, 0, none⟩)] 127)).alloc (.cells #[.bool false] 4) = w1 := ⟨_, rfl⟩
  have hb1 : Below w.heap.size w w1 := by rw [← hw1]; exact ((Below.refl _ _).alloc (Nat.le_refl _) _).alloc (by simp) _
  have hs1 : w1.heap.size = w.heap.size + 1 + 1 := by rw [← hw1]; simp
  have k0 : Blk w1 w.heap.size #[.pointer (some ⟨mb, 0, none⟩)] 127 := by rw [← hw1]; exact (Blk.new _ _ _).alloc _
  have k1 : Blk w1 (w.heap.size + 1) #[.bool false] 4 := by
    rw [← hw1]
    have := Blk.new (w.alloc (.cells #[.pointer (some ⟨mb, 0, none⟩)] 127)) #[.bool false] 4
    simpa only [World.size_alloc] using this
  have hmlt := hmb.lt
  have hm1 : MachAt w1 mb F.p g false st0 := hmb.keep hb1 hmlt
  have hnew : ∀ k, w.heap.size ≤ k → ¬ M k := fun k hk e => by have := h.lt k e; omega
  have a0 := k0.cell 0 (v := .pointer (some ⟨mb, 0, none⟩)) rfl
  have a1 := hm1.cell 0 (v := .pointer (some ⟨F.p, 0, none⟩)) rfl
  have a2 := hm1.cell 1 (v := .func (.func g) #[] #[]) rfl
  have HMAIN := Lib.hid (hmain w1.drew ((h.below hb1).below (below_drew2 w1)))
  have H := Lib.hid h
  have HB1 := Lib.hid hb1
  have HK1 := Lib.hid k1
  have HK0 := Lib.hid k0
  have HMB := Lib.hid hm1
  have HNEW := Lib.hid hnew
  clear h hb1 k0 k1 hm1 hmb hmain hnew
  go_enter_defers Tryz.func83, Tryz.ntmps83
  go_wp2_with fail
  try rw [hw1]
  clear hw1
  go_region_held3 (fun w' => w'.cell? ⟨w.heap.size, 0, none⟩ = some (.pointer (some ⟨mb, 0, none⟩)) ∧ w'.cell? ⟨mb, 0, none⟩ = some (.pointer (some ⟨F.p, 0, none⟩)) ∧ w'.cell? ⟨mb, 1, none⟩ = some (.func (.func g) #[] #[])) (first | go_keep | exact HS.out | exact HS2.out)
    ((go_at_fn g; refine HMAIN.out.mono ?_; rintro e w4 ⟨st, inp', out', err', M', rfl, hp4, hm4, hq⟩; have hK := (Kept.of_below (S := M) (below_drew2 w1)).trans hm4.kept; have hmb4 : MachAt w4 mb F.p g false st0 := Blk.kept HMB.out hK hM; have hk4 := HK0.out.kept hK (HNEW.out _ (Nat.le_refl _)); have HS := Lib.hid (show w4.cell? ⟨w.heap.size, 0, none⟩ = some (.pointer (some ⟨mb, 0, none⟩)) ∧ w4.cell? ⟨mb, 0, none⟩ = some (.pointer (some ⟨F.p, 0, none⟩)) ∧ w4.cell? ⟨mb, 1, none⟩ = some (.func (.func g) #[] #[]) from ⟨hk4.cell 0 rfl, hmb4.cell 0 rfl, hmb4.cell 1 rfl⟩); have hmb5 : MachAt (w4.setCell ⟨mb, 3, none⟩ (.int .i64 st)) mb F.p g false st := Blk.set hmb4 3 _; have hne : w.heap.size ≠ mb := (by omega); have hk5 := hk4.setOther (a := ⟨mb, 3, none⟩) hne (.int .i64 st); have HS2 := Lib.hid (show (w4.setCell ⟨mb, 3, none⟩ (.int .i64 st)).cell? ⟨w.heap.size, 0, none⟩ = some (.pointer (some ⟨mb, 0, none⟩)) ∧ (w4.setCell ⟨mb, 3, none⟩ (.int .i64 st)).cell? ⟨mb, 0, none⟩ = some (.pointer (some ⟨F.p, 0, none⟩)) ∧ (w4.setCell ⟨mb, 3, none⟩ (.int .i64 st)).cell? ⟨mb, 1, none⟩ = some (.func (.func g) #[] #[]) from ⟨hk5.cell 0 rfl, hmb5.cell 0 rfl, hmb5.cell 1 rfl⟩); have m3 := hmb4.cell 3 (v := .int .i64 st0) rfl; have mf3 := hmb4.free 3; have HP4 := Lib.hid hp4; have HM4 := Lib.hid hm4; have HQ := Lib.hid hq; have HMB5 := Lib.hid hmb5; have HKK := Lib.hid hK; clear hp4 hm4 hq hmb4 hmb5 hk4 hk5 hK))
  obtain ⟨w5, hw5⟩ : ∃ w5, w4.setCell ⟨mb, 3, none⟩ (.int .i64 st) = w5 := ⟨_, rfl⟩
  have hk5 : Kept (fun j => j = mb) w4 w5 := by rw [← hw5]; exact (Kept.refl (fun j => j = mb) _).setCell (.inl rfl) 3 _
  have hm5 : MachAt w5 mb F.p g false st := by rw [← hw5]; exact HMB5.out
  rw [hw5]
  have hk45 := (HK1.out.kept HKK.out (HNEW.out _ (by omega))).kept hk5 (by omega)
  have hM' : ¬ M' mb := HM4.out.not (by have := HMB.out.lt; simpa using this) hM
  have hp5 : PrAt w5 F M' inp' out' err' := HP4.out.kept hk5 fun j hj => by subst hj; exact ⟨hn0, hM'⟩
  have o1 := hk45.cell 0 (v := .bool false) rfl
  have of1 := hk45.free 0
  have hlast := hk45.set 0 (.bool true)
  have hk6 : Kept (fun j => j = w.heap.size + 1) w5 (w5.setCell ⟨w.heap.size + 1, 0, none⟩ (.bool true)) := (Kept.refl (fun j => j = w.heap.size + 1) _).setCell (.inl rfl) 0 _
  have hm1' : ∀ k, w.heap.size ≤ k → k < w1.heap.size → ¬ M' k := fun k hk hk2 => HM4.out.not (by simpa using hk2) (HNEW.out k hk)
  have hp6 := hp5.kept hk6 fun j hj => by subst hj; exact ⟨by omega, hm1' _ (by omega) (by omega)⟩
  have hm6 : MachAt _ mb F.p g false st := Blk.kept hm5 hk6 (by omega)
  have hmv : MvR M M' mb w (w5.setCell ⟨w.heap.size + 1, 0, none⟩ (.bool true)) := by
    have h1 : Kept (fun j => M j ∨ j = mb) w w4 := (Kept.of_below HB1.out).trans (HKK.out.mono fun _ _ h => .inl h)
    have h2 : Kept (fun j => M j ∨ j = mb) w w5 := h1.trans (hk5.mono fun _ _ h => .inr h)
    exact ⟨h2.trans' hk6 fun k hk e => by omega, fun j hj => by
      rcases HM4.out.new j hj with h | h
      · exact .inl h
      · have : w1.heap.size ≤ j := h
        exact .inr (by omega)⟩
  have HP6 := Lib.hid hp6
  have HM6 := Lib.hid hm6
  have HMV := Lib.hid hmv
  have c6 := hlast.cell 0 (v := .bool true) rfl
  have HC6 := Lib.hid c6
  clear hw5 hk5 hm5 hk45 hM' hp5 hlast hk6 hm1' hp6 hm6 hmv c6 HMB5 HS HS2 HP4 HM4 m3 mf3
  go_wp2_with fail
  refine leaves_cons (f := 141) (args := #[.pointer (some ⟨w.heap.size + 1, 0, none⟩), .pointer (some ⟨w.heap.size, 0, none⟩)]) (by simp) (by simp [go_sem]) ?_
  refine (attempt_idle ⟨w.heap.size + 1, 0, none⟩ ⟨w.heap.size, 0, none⟩ _).mono ?_
  rintro e u' w9 ⟨rfl, rfl, rfl⟩
  refine ⟨.bool true, by simp [results, Tryz.results83, go_sem, HC6.out], ?_⟩
  exact ⟨rfl, st, inp', out', err', M', HP6.out, HM6.out, HMV.out, HQ.out⟩

end Go.Proofs.YtjdcjdclipbjhaaGreatDoor

/-
  The walk of Table.Free. Condition: the table has a source and two sinks.
-/
namespace Go.Proofs.YtjdcjdclipbjhaaGreatDoor
open Go.RowKit Go.Shelf Go.Maps

/-- What a descriptor has, so many of them being closed. -/
def tv (i j : Nat) (v : Value) : Value := if j < i then .nilIface else v

set_option maxRecDepth 100000 in
set_option maxHeartbeats 4000000 in
theorem free_any (tb k s0 s1 s2 : Nat) (w : World) (ht : TabAt w tb k (thV 183 s0) (thV 187 s1) (thV 187 s2)) :
    Calls Tryz.prog 142 #[.pointer (some ⟨tb, 0, none⟩)] w fun e w' => (∃ v, e = .returned v) ∧ TabAt w' tb k .nilIface .nilIface .nilIface ∧ Kept (fun j => j = tb) w w' := by
  have hf := fds_any tb k _ _ _ _ _ _ w ht
  have htlt := ht.lt
  have HT := Lib.hid ht
  clear ht
  go_enter Tryz.func142, Tryz.ntmps142
  go_wp2_with fail
  refine hf.mono ?_
  rintro e w1 ⟨v, rfl, hown, hb1⟩
  obtain ⟨g, c, rfl⟩ := own_slice (n := 2) hown
  have hg : w.heap.size ≤ g ∧ g < w1.heap.size := hown.lt g rfl
  have e0 := hown.cellAt 0 (by decide)
  have e1 := hown.cellAt 1 (by decide)
  have e2 := hown.cellAt 2 (by decide)
  have ht1 := HT.out.keep hb1 htlt
  have HT1 := Lib.hid ht1
  have HB1 := Lib.hid hb1
  clear hf hown ht1 hb1
  have HC : Hid (w1.cell? ⟨g, 0, none⟩ = some (.int .i64 0) ∧ w1.cell? ⟨g, 1, none⟩ = some (.int .i64 1) ∧ w1.cell? ⟨g, 2, none⟩ = some (.int .i64 2)) := Lib.hid ⟨e0, e1, e2⟩
  clear e0 e1 e2
  go_wp2_with fail
  go_loopw [3, 7] (fun _x3 i wr => ∃ n : Nat, n ≤ 3 ∧ i = .int .i64 n ∧ Hid (TabAt wr tb k (tv n 0 (thV 183 s0)) (tv n 1 (thV 187 s1)) (tv n 2 (thV 187 s2))) ∧ Hid (Kept (fun j => j = tb) w1 wr)) (fun _ i _ => 3 - (intOf i).toNat)
  case atStart => exact ⟨0, by decide, rfl, HT1, Lib.hid (Kept.refl _ _)⟩
  case round =>
    obtain ⟨n, hn, rfl, htr, hkr⟩ := hrel
    have hgt : g ≠ tb := by omega
    have hcr : ∀ j v, w1.cell? ⟨g, j, none⟩ = some v → wr.cell? ⟨g, j, none⟩ = some v := fun j v hv => (World.cell?_of_block (hkr.out.block g hg.2 hgt)).trans hv
    obtain ⟨d0, d1, d2⟩ := HC.out
    have c0 := hcr 0 _ d0
    have c1 := hcr 1 _ d1
    have c2 := hcr 2 _ d2
    clear hcr d0 d1 d2
    obtain rfl | rfl | rfl | rfl : n = 0 ∨ n = 1 ∨ n = 2 ∨ n = 3 := by omega
    · have hs := setNil_any tb k 0 (by decide) _ (.inl rfl) s0 wr (htr.out.cell 0 rfl) (htr.out.cell 1 rfl) (htr.out.free 1)
      go_wp2_with fail
      refine hs.mono ?_
      rintro e w2 ⟨⟨u, rfl⟩, rfl⟩
      go_wp2_with fail
      go_roundw
      case rel => exact ⟨1, by decide, by go_num, Lib.hid (htr.out.set 1 .nilIface), Lib.hid (hkr.out.setCell (.inl rfl) 1 _)⟩
      case measure => simp [intOf]
    · have hs := setNil_any tb k 1 (by decide) _ (.inr rfl) s1 wr (htr.out.cell 0 rfl) (htr.out.cell 2 rfl) (htr.out.free 2)
      go_wp2_with fail
      refine hs.mono ?_
      rintro e w2 ⟨⟨u, rfl⟩, rfl⟩
      go_wp2_with fail
      go_roundw
      case rel => exact ⟨2, by decide, by go_num, Lib.hid (htr.out.set 2 .nilIface), Lib.hid (hkr.out.setCell (.inl rfl) 2 _)⟩
      case measure => simp [intOf]
    · have hs := setNil_any tb k 2 (by decide) _ (.inr rfl) s2 wr (htr.out.cell 0 rfl) (htr.out.cell 3 rfl) (htr.out.free 3)
      go_wp2_with fail
      refine hs.mono ?_
      rintro e w2 ⟨⟨u, rfl⟩, rfl⟩
      go_wp2_with fail
      go_roundw
      case rel => exact ⟨3, by decide, by go_num, Lib.hid (htr.out.set 3 .nilIface), Lib.hid (hkr.out.setCell (.inl rfl) 3 _)⟩
      case measure => simp [intOf]
    · go_wp2_with fail
      refine bodyPost_end (results_none rfl _ _ _) rfl ⟨⟨_, rfl⟩, htr.out, (Kept.of_below HB1.out).trans hkr.out⟩

end Go.Proofs.YtjdcjdclipbjhaaGreatDoor

/-
  The walks of ended and goOn. Condition on main: what it comes to.
-/
namespace Go.Proofs.YtjdcjdclipbjhaaGreatDoor
open Go.RowKit Go.Shelf Go.Maps

/-- What stands behind a run's end. -/
structure EndAt (W : World) (F : Fx) (out err : Bts) : Prop where
  tree : TreeAt W F.t F.r F.a F.b
  kern : KernAt W F.k F.t ((2 + 1 : Nat) : Int) F.m
  things : W.ownsMap Tryz.prog 3 thElem F.m 3 (thD3 F)
  snk : ∃ v1 v2, Blk W F.s1 #[v1] 188 ∧ Blk W F.s2 #[v2] 188 ∧ W.ownsRow 0 5 1 v1 out.length (out.map u8V) ∧ W.ownsRow 0 5 1 v2 err.length (err.map u8V)
  proc : ∃ held peak steps : Int, ∃ may : Bool, ProcAt W F.p F.k F.tb F.av F.buf F.line F.run held peak may true steps F.al

theorem PrAt.ends {W W' : World} {F : Fx} {M S : Nat → Prop} {inp out err : Bts} (h : PrAt W F M inp out err) (hk : Kept S W W') (hS : ∀ j, S j → j = F.tb ∨ (F.n0 ≤ j ∧ ¬ M j)) : EndAt W' F out err := by
  obtain ⟨hf, -, ⟨v1, v2, b1, b2, o1, o2, d1, d2⟩, ⟨hd, pk, st, hp⟩, mp, m0, m1, m2, di, lt, n0, li, bg⟩ := h
  have hM : ∀ j, M j → ¬ S j := fun j hj hs => by
    rcases hS j hs with h | h
    · exact hf.oldTb.2 (h ▸ hj)
    · exact h.2 hj
  have hO : ∀ j, j < F.n0 → j ≠ F.tb → ¬ S j := fun j hj hne hs => by
    rcases hS j hs with h | h
    · exact hne h
    · omega
  have hne : ∀ {b : Nat} {cs : Array Value} {t : TypeId}, Blk W b cs t → t ≠ 176 → b ≠ F.tb := fun hb ht e => by
    subst e
    have h2 : W.heap[F.tb]? = some (.cells _ 176 (0, 0)) := hf.tab
    rw [hb] at h2
    injection h2 with h2
    injection h2 with _ h2
    exact ht h2
  have hne2 : ∀ {b : Nat} {es : Array MapEntry} {c : Nat}, W.heap[b]? = some (.map es c) → b ≠ F.tb := fun hb e => by
    subst e
    have h2 : W.heap[F.tb]? = some (.cells _ 176 (0, 0)) := hf.tab
    rw [hb] at h2
    injection h2 with h2
    cases h2
  refine ⟨⟨hf.tree.1.kept hk (hO _ hf.oldT.1 (hne hf.tree.1 (by decide))), hf.tree.2.1.kept hk (hO _ hf.oldR.1 (hne hf.tree.2.1 (by decide))), (hk.block _ (lt_of_heap hf.tree.2.2.1) (hO _ hf.oldA.1 (hne2 hf.tree.2.2.1))).trans hf.tree.2.2.1, (hk.block _ (lt_of_heap hf.tree.2.2.2) (hO _ hf.oldB.1 (hne2 hf.tree.2.2.2))).trans hf.tree.2.2.2⟩, Blk.kept hf.kern hk (hO _ hf.oldK.1 (hne hf.kern (by decide))), map_same hf.things (hk.block _ hf.things.lt (hO _ hf.oldM.1 ?_)), ⟨v1, v2, b1.kept hk (hM _ m1), b2.kept hk (hM _ m2), own_kept o1 hk fun j hj => hM _ (d1 j hj).1, own_kept o2 hk fun j hj => hM _ (d2 j hj).1⟩, ⟨hd, pk, st, true, Blk.kept hp hk (hM _ mp)⟩⟩
  obtain ⟨es, clock, hb, -⟩ := hf.things
  exact hne2 hb

set_option maxRecDepth 100000 in
set_option maxHeartbeats 4000000 in
theorem ended_any (F : Fx) (M : Nat → Prop) (inp out err : Bts) (g mb : Nat) (st0 : Int) (w : World) (h : PrAt w F M inp out err) (hmb : MachAt w mb F.p g false st0) (hn0 : F.n0 ≤ mb) (hM : ¬ M mb) :
    Calls Tryz.prog 84 #[.pointer (some ⟨mb, 0, none⟩)] w fun e w' => (∃ v, e = .returned v) ∧ EndAt w' F out err ∧ MachAt w' mb F.p g true st0 ∧ Kept (fun j => M j ∨ j = mb ∨ j = F.tb) w w' := by
  have hpm : F.p ≠ mb := fun e => hM (e ▸ h.mp)
  have hmp : mb ≠ F.p := hpm.symm
  have m0 := hmb.cell 0 (v := .pointer (some ⟨F.p, 0, none⟩)) rfl
  have m2 := hmb.cell 2 (v := .bool false) rfl
  have mf2 := hmb.free 2
  have H := Lib.hid h
  have HMB := Lib.hid hmb
  clear h hmb
  go_enter Tryz.func84, Tryz.ntmps84
  go_wp2_with fail
  obtain ⟨w1, hw1⟩ : ∃ w1, w.setCell ⟨mb, 2, none⟩ (.bool true) = w1 := ⟨_, rfl⟩
  have hm1 : MachAt w1 mb F.p g true st0 := by rw [← hw1]; exact Blk.set HMB.out 2 _
  have hk1 : Kept (fun j => j = mb) w w1 := by rw [← hw1]; exact (Kept.refl (fun j => j = mb) _).setCell (.inl rfl) 2 _
  have hp1 := H.out.kept hk1 fun j hj => by subst hj; exact ⟨hn0, hM⟩
  rw [hw1]
  obtain ⟨hd, pk, st, hpp⟩ := hp1.proc
  have n0 := hm1.cell 0 (v := .pointer (some ⟨F.p, 0, none⟩)) rfl
  have c8 := hpp.cell 8 (v := .int .i64 hd) rfl
  have f8 := hpp.free 8
  have c10 := hpp.cell 10 (v := .slice none 0 0) rfl
  have f10 := hpp.free 10
  have HP1 := Lib.hid hp1
  have HM1 := Lib.hid hm1
  have HK1 := Lib.hid hk1
  have HPP := Lib.hid hpp
  clear hp1 hm1 hk1 hpp hw1 m0 m2 mf2
  go_region_held3 (fun w' => w'.cell? ⟨mb, 0, none⟩ = some (.pointer (some ⟨F.p, 0, none⟩))) (first | go_keep) (fail)
  obtain ⟨w2, hw2⟩ : ∃ w2, ((w1.setCell ⟨F.p, 8, none⟩ (.int .i64 0)).setCell ⟨F.p, 10, none⟩ (.slice none 0 0)).drew = w2 := ⟨_, rfl⟩
  have hk2 : Kept (fun j => j = F.p) w1 w2 := by rw [← hw2]; exact (((Kept.refl (fun j => j = F.p) _).setCell (.inl rfl) 8 _).setCell (.inl rfl) 10 _).drew
  have hpp2 : ProcAt w2 F.p F.k F.tb F.av F.buf F.line F.run 0 pk true true st F.al := by rw [← hw2]; exact ((Blk.set HPP.out 8 _).set 10 _).drew
  rw [hw2]
  have hp2 := HP1.out.turn hk2 hpp2
  have hm2 : MachAt w2 mb F.p g true st0 := Blk.kept HM1.out hk2 hmp
  have q0 := hm2.cell 0 (v := .pointer (some ⟨F.p, 0, none⟩)) rfl
  have q1 := hpp2.cell 1 (v := .pointer (some ⟨F.tb, 0, none⟩)) rfl
  have hf := free_any F.tb F.k F.s0 F.s1 F.s2 w2 hp2.fix.tab
  have hmt : mb ≠ F.tb := by have := hp2.fix.oldTb.1; omega
  have HP2 := Lib.hid hp2
  have HM2 := Lib.hid hm2
  have HK2 := Lib.hid hk2
  clear hw2 hk2 hpp2 hp2 hm2 c8 f8 c10 f10 n0
  go_wp2_with fail
  refine hf.mono ?_
  rintro e w3 ⟨⟨u, rfl⟩, -, hk3⟩
  have HK3 := Lib.hid hk3
  clear hf hk3
  go_wp2_with fail
  refine bodyPost_end (results_none rfl _ _ _) rfl ⟨⟨_, rfl⟩, HP2.out.ends HK3.out fun j hj => .inl hj, Blk.kept HM2.out HK3.out hmt, ?_⟩
  exact ((HK1.out.mono fun _ _ h => .inr (.inl h)).trans (HK2.out.mono fun _ _ h => .inl (h ▸ H.out.mp))).trans (HK3.out.mono fun _ _ h => .inr (.inr h))

set_option maxRecDepth 100000 in
set_option maxHeartbeats 4000000 in
theorem goOn_any (F : Fx) (M : Nat → Prop) (inp out err : Bts) (g mb : Nat) (st0 : Int) (w : World) (h : PrAt w F M inp out err) (hmb : MachAt w mb F.p g false st0) (hn0 : F.n0 ≤ mb) (hM : ¬ M mb)
    (hent : ∀ (args : Array Value) (w : World), (callFunc g args).run Tryz.prog w = .ok (.enter g args) w) (Q : Int → Bts → Bts → Prop)
    (hmain : ∀ W, PrAt W F M inp out err → Calls Tryz.prog g #[.pointer (some ⟨F.p, 0, none⟩)] W fun e W' => ∃ st inp' out' err' M', e = .returned (.int .i64 st) ∧ PrAt W' F M' inp' out' err' ∧ Mv M M' W W' ∧ Q st out' err') :
    Calls Tryz.prog 49 #[.pointer (some ⟨mb, 0, none⟩)] w fun e w' => (∃ v, e = .returned v) ∧ ∃ st out' err', EndAt w' F out' err' ∧ MachAt w' mb F.p g true st ∧ Kept (fun j => M j ∨ j = mb ∨ j = F.tb) w w' ∧ Q st out' err' := by
  have hpm : F.p ≠ mb := fun e => hM (e ▸ h.mp)
  have hmp : mb ≠ F.p := hpm.symm
  obtain ⟨hd, pk, st, hpp⟩ := h.proc
  have n0 := hmb.cell 0 (v := .pointer (some ⟨F.p, 0, none⟩)) rfl
  have c8 := hpp.cell 8 (v := .int .i64 hd) rfl
  have f8 := hpp.free 8
  have c11 := hpp.cell 11 (v := .int .i64 0) rfl
  have f11 := hpp.free 11
  have H := Lib.hid h
  have HMB := Lib.hid hmb
  have HPP := Lib.hid hpp
  clear h hmb hpp
  go_enter Tryz.func49, Tryz.ntmps49
  go_wp2_with fail
  go_region_held3 (fun w' => w'.cell? ⟨mb, 0, none⟩ = some (.pointer (some ⟨F.p, 0, none⟩))) (first | go_keep) (fail)
  obtain ⟨w2, hw2⟩ : ∃ w2, ((w.setCell ⟨F.p, 11, none⟩ (.int .i64 0)).setCell ⟨F.p, 8, none⟩ (.int .i64 0)).drew = w2 := ⟨_, rfl⟩
  have hk2 : Kept (fun j => j = F.p) w w2 := by rw [← hw2]; exact (((Kept.refl (fun j => j = F.p) _).setCell (.inl rfl) 11 _).setCell (.inl rfl) 8 _).drew
  have hpp2 : ProcAt w2 F.p F.k F.tb F.av F.buf F.line F.run 0 pk true true st F.al := by rw [← hw2]; exact ((Blk.set HPP.out 11 _).set 8 _).drew
  rw [hw2]
  have hp2 := H.out.turn hk2 hpp2
  have hm2 : MachAt w2 mb F.p g false st0 := Blk.kept HMB.out hk2 hmp
  have hat := attempt_any F M inp out err g mb st0 w2 hp2 hm2 hn0 hM hent Q hmain
  have HK2 := Lib.hid hk2
  clear hw2 hk2 hpp2 hp2 hm2 c8 f8 c11 f11 n0 hmain
  go_wp2_with fail
  refine hat.mono ?_
  rintro e w3 ⟨rfl, st3, inp3, out3, err3, M3, hp3, hm3, hv3, hq⟩
  have hM3 : ¬ M3 mb := fun e => by
    rcases hv3.2 mb e with h | h
    · exact hM h
    · have := (Blk.kept HMB.out HK2.out hmp).lt; omega
  have hen := ended_any F M3 inp3 out3 err3 g mb st3 w3 hp3 hm3 hn0 hM3
  have HV3 := Lib.hid hv3
  have HQ := Lib.hid hq
  clear hat hp3 hm3 hv3 hq
  go_wp2_with fail
  refine hen.mono ?_
  rintro e w4 ⟨⟨u, rfl⟩, he4, hm4, hk4⟩
  have HE4 := Lib.hid he4
  have HM4 := Lib.hid hm4
  have HK4 := Lib.hid hk4
  clear hen he4 hm4 hk4
  go_wp2_with fail
  refine bodyPost_end (results_none rfl _ _ _) rfl ⟨⟨_, rfl⟩, st3, out3, err3, HE4.out, HM4.out, ?_, HQ.out⟩
  have h1 : Kept (fun j => M j ∨ j = mb ∨ j = F.tb) w w3 := (HK2.out.mono fun _ _ h => .inl (h ▸ H.out.mp)).trans (HV3.out.1.mono fun _ _ h => h.elim .inl fun h => .inr (.inl h))
  exact h1.trans' HK4.out fun k hk e => by
    rcases e with e | e | e
    · rcases HV3.out.2 k e with h | h
      · exact .inl h
      · have := HK2.out.size; omega
    · exact .inr (.inl e)
    · exact .inr (.inr e)

end Go.Proofs.YtjdcjdclipbjhaaGreatDoor

/-
  The walk of proc.New. Conditions: the arguments lie in memory; without an environment.
-/
namespace Go.Proofs.YtjdcjdclipbjhaaGreatDoor
open Go.RowKit Go.Shelf Go.Maps

/-- Texts that lie behind a pointer. -/
def Ss (w : World) (p : Option Addr) (l : List Bts) : Prop := 0 < l.length → ∃ b o, p = some ⟨b, o, none⟩ ∧ ∀ i, i < l.length → w.cell? ⟨b, o + i, none⟩ = some (strV (l.getD i []))
theorem Ss.below {w w' : World} {p : Option Addr} {l : List Bts} (h : Ss w p l) (hb : Below w.heap.size w w') : Ss w' p l := by
  intro hl
  obtain ⟨b, o, hp, hc⟩ := h hl
  exact ⟨b, o, hp, fun i hi => (hb.cell (p := ⟨b, o + i, none⟩) (World.block_lt_of_cell? _ _ (hc i hi))).trans (hc i hi)⟩

theorem clone_ss (w : World) (p : Option Addr) (l : List Bts) (c : Nat) (h : Ss w p l) (hl : l.length < 1073741824) :
    Calls Tryz.prog 79 #[.slice p l.length c] w fun e w' => ∃ v', e = .returned v' ∧ StrsOwn w' w.heap.size v' l ∧ Below w.heap.size w w' := by
  rcases Nat.eq_zero_or_pos l.length with h0 | h0
  · obtain rfl : l = [] := List.eq_nil_of_length_eq_zero h0
    cases p with
    | none =>
      refine (Any.slices_Clone_string_nil Tryz.laysNm216 0 c w).mono ?_
      rintro e w' ⟨rfl, rfl⟩
      exact ⟨_, rfl, World.ownsRow_nil _ _ _ _, Below.refl _ _⟩
    | some a =>
      refine (Any.slices_Clone_string_zero Tryz.laysNm216 a c w).mono ?_
      rintro e w' ⟨v', rfl, hown, -, hb⟩
      exact ⟨v', rfl, hown, hb⟩
  · obtain ⟨b, o, rfl, hc⟩ := h h0
    refine (Any.slices_Clone_string Tryz.laysNm216 b o l.length c (l.map fun s => ⟨s.toArray⟩) w (by simp) (by omega) fun j hj => ?_).mono ?_
    · rw [List.length_map] at hj
      rw [hc j hj]
      simp [List.getD_eq_getElem?_getD, hj, strV]
    · rintro e w' ⟨v', rfl, hown, -, hb⟩
      refine ⟨v', rfl, ?_, hb⟩
      have e2 : ((l.map fun s => (⟨s.toArray⟩ : ByteArray)).take l.length).map Value.string = l.map strV := by
        rw [List.take_of_length_le (by simp), List.map_map]; rfl
      rw [e2] at hown
      exact hown

theorem strs_shape {w : World} {B : Nat} {v : Value} {l : List Bts} (h : StrsOwn w B v l) : ∃ p c, v = .slice p l.length c := by
  rcases h.2 with ⟨h1, h2⟩ | ⟨g, cap, cur, e, -⟩
  · exact ⟨none, 0, by rw [h2]; exact h1⟩
  · exact ⟨_, _, e⟩

set_option maxRecDepth 100000 in
set_option maxHeartbeats 4000000 in
theorem procNew_any (k : Nat) (p : Option Addr) (l : List Bts) (c : Nat) (buf line run : Int) (w : World) (h : Ss w p l) (hl : l.length < 1073741824) :
    Calls Tryz.prog 44 #[.pointer (some ⟨k, 0, none⟩), .slice p l.length c, .slice none 0 0, .string ⟨#[]⟩, .agg #[.int .i64 buf, .int .i64 line, .int .i64 run]] w fun e w' => ∃ pp tb al v, e = .returned (.pointer (some ⟨pp, 0, none⟩)) ∧ ProcAt w' pp k tb v buf line run 0 0 false false 0 al ∧ TabAt w' tb k .nilIface .nilIface .nilIface ∧ Blk w' al #[.slice none 0 0, .slice none 0 0, .int .i64 (-1)] 123 ∧ StrsOwn w' w.heap.size v l ∧ w.heap.size ≤ pp ∧ w.heap.size ≤ tb ∧ w.heap.size ≤ al ∧ pp ≠ tb ∧ pp ≠ al ∧ tb ≠ al ∧ Below w.heap.size w w' := by
  obtain ⟨w1, hw1⟩ : ∃ w1, w.alloc (.cells #[.int .i64 buf, .int .i64 line, .int .i64 run] 35) = w1 := ⟨_, rfl⟩
  have hb1 : Below w.heap.size w w1 := by rw [← hw1]; exact (Below.refl _ _).alloc (Nat.le_refl _) _
  have hn1 : Blk w1 w.heap.size #[.int .i64 buf, .int .i64 line, .int .i64 run] 35 := by rw [← hw1]; exact Blk.new _ _ _
  have a0 := hn1.cell 0 (v := .int .i64 buf) rfl
  have a1 := hn1.cell 1 (v := .int .i64 line) rfl
  have a2 := hn1.cell 2 (v := .int .i64 run) rfl
  have hl1 := hn1.lt
  have HB1 := Lib.hid hb1
  have HN1 := Lib.hid hn1
  have HS := Lib.hid (h.below hb1)
  clear hb1 hn1 h
  have FIN : Hid (∀ Wp tb al v B, TabAt Wp tb k .nilIface .nilIface .nilIface → Blk Wp al #[.slice none 0 0, .slice none 0 0, .int .i64 (-1)] 123 → StrsOwn Wp B v l → w.heap.size ≤ B → Below w.heap.size w Wp → w.heap.size ≤ tb → w.heap.size ≤ al → tb ≠ al →
      ∃ pp tb' al' v', Ending.returned (.pointer (some ⟨Wp.heap.size, 0, none⟩)) = .returned (.pointer (some ⟨pp, 0, none⟩)) ∧ ProcAt (Wp.alloc (.cells #[.pointer (some ⟨k, 0, none⟩), .pointer (some ⟨tb, 0, none⟩), v, .slice none 0 0, .string ⟨#[]⟩, .int .i64 buf, .int .i64 line, .int .i64 run, .int .i64 0, .int .i64 0, .slice none 0 0, .int .i64 0, .bool false, .bool false, .bool false, .int .i64 0, .nilIface, .pointer (some ⟨al, 0, none⟩)] 119)) pp k tb' v' buf line run 0 0 false false 0 al' ∧
        TabAt (Wp.alloc (.cells #[.pointer (some ⟨k, 0, none⟩), .pointer (some ⟨tb, 0, none⟩), v, .slice none 0 0, .string ⟨#[]⟩, .int .i64 buf, .int .i64 line, .int .i64 run, .int .i64 0, .int .i64 0, .slice none 0 0, .int .i64 0, .bool false, .bool false, .bool false, .int .i64 0, .nilIface, .pointer (some ⟨al, 0, none⟩)] 119)) tb' k .nilIface .nilIface .nilIface ∧
        Blk (Wp.alloc (.cells #[.pointer (some ⟨k, 0, none⟩), .pointer (some ⟨tb, 0, none⟩), v, .slice none 0 0, .string ⟨#[]⟩, .int .i64 buf, .int .i64 line, .int .i64 run, .int .i64 0, .int .i64 0, .slice none 0 0, .int .i64 0, .bool false, .bool false, .bool false, .int .i64 0, .nilIface, .pointer (some ⟨al, 0, none⟩)] 119)) al' #[.slice none 0 0, .slice none 0 0, .int .i64 (-1)] 123 ∧
        StrsOwn (Wp.alloc (.cells #[.pointer (some ⟨k, 0, none⟩), .pointer (some ⟨tb, 0, none⟩), v, .slice none 0 0, .string ⟨#[]⟩, .int .i64 buf, .int .i64 line, .int .i64 run, .int .i64 0, .int .i64 0, .slice none 0 0, .int .i64 0, .bool false, .bool false, .bool false, .int .i64 0, .nilIface, .pointer (some ⟨al, 0, none⟩)] 119)) w.heap.size v' l ∧ w.heap.size ≤ pp ∧ w.heap.size ≤ tb' ∧ w.heap.size ≤ al' ∧ pp ≠ tb' ∧ pp ≠ al' ∧ tb' ≠ al' ∧ Below w.heap.size w (Wp.alloc (.cells #[.pointer (some ⟨k, 0, none⟩), .pointer (some ⟨tb, 0, none⟩), v, .slice none 0 0, .string ⟨#[]⟩, .int .i64 buf, .int .i64 line, .int .i64 run, .int .i64 0, .int .i64 0, .slice none 0 0, .int .i64 0, .bool false, .bool false, .bool false, .int .i64 0, .nilIface, .pointer (some ⟨al, 0, none⟩)] 119))) := Lib.hid (by
    intro Wp tb al v B h1 h2 h3 h4 h5 h6 h7 h8
    have hlt1 := h1.lt
    have hlt2 := h2.lt
    exact ⟨_, tb, al, v, rfl, Blk.new _ _ _, h1.alloc _, h2.alloc _, own_mono (own_kept h3 (Kept.of_below (S := fun _ => False) ((Below.refl _ _).alloc (Nat.le_refl _) _)) fun _ _ h => h) h4, h5.size, h6, h7, by omega, by omega, h8, h5.alloc h5.size _⟩)
  go_enter Tryz.func44, Tryz.ntmps44
  go_wp2_with fail
  try rw [hw1]
  clear hw1
  go_region_held3 (fun w' => w'.cell? ⟨w.heap.size, 0, none⟩ = some (.int .i64 buf) ∧ w'.cell? ⟨w.heap.size, 1, none⟩ = some (.int .i64 line) ∧ w'.cell? ⟨w.heap.size, 2, none⟩ = some (.int .i64 run)) (first | go_keep | (exact HL2.out) | (exact HL3.out))
    ((first
      | (go_at_call 78; refine (table_any k _).mono ?_; rintro e w2 ⟨rfl, ht2, hb2⟩; have hbb2 : Below w1.heap.size w1 w2 := (by first | exact (below_drew2 w1).trans hb2 | exact ((below_drew2 w1).alloc (Nat.le_refl _) _).trans (hb2.mono (by simp)) | exact (((Below.refl _ w1).alloc (Nat.le_refl _) _).drew).trans (hb2.mono (by simp))); have HL2 := Lib.hid (show w2.cell? ⟨w.heap.size, 0, none⟩ = some (.int .i64 buf) ∧ w2.cell? ⟨w.heap.size, 1, none⟩ = some (.int .i64 line) ∧ w2.cell? ⟨w.heap.size, 2, none⟩ = some (.int .i64 run) from ⟨(hbb2.cell (p := ⟨w.heap.size, 0, none⟩) hl1).trans a0, (hbb2.cell (p := ⟨w.heap.size, 1, none⟩) hl1).trans a1, (hbb2.cell (p := ⟨w.heap.size, 2, none⟩) hl1).trans a2⟩); have HT2 := Lib.hid ht2; have HB2 := Lib.hid hbb2; have HBR2 := Lib.hid hb2; clear ht2 hb2 hbb2)
      | (go_at_call 79; refine (clone_ss _ p l c (HS.out.below (by first | exact HB2.out | exact HB2.out.alloc HB2.out.size _)) hl).mono ?_; rintro e w3 ⟨v3, rfl, ho3, hb3⟩; obtain ⟨p3, c3, rfl⟩ := strs_shape ho3; have hb23 : Below w2.heap.size w2 w3 := (by first | exact hb3 | exact (((Below.refl _ w2).alloc (Nat.le_refl _) _)).trans (hb3.mono (by simp))); have hbb3 := HB2.out.trans (hb23.mono HB2.out.size); have HL3 := Lib.hid (show w3.cell? ⟨w.heap.size, 0, none⟩ = some (.int .i64 buf) ∧ w3.cell? ⟨w.heap.size, 1, none⟩ = some (.int .i64 line) ∧ w3.cell? ⟨w.heap.size, 2, none⟩ = some (.int .i64 run) from ⟨(hbb3.cell (p := ⟨w.heap.size, 0, none⟩) hl1).trans a0, (hbb3.cell (p := ⟨w.heap.size, 1, none⟩) hl1).trans a1, (hbb3.cell (p := ⟨w.heap.size, 2, none⟩) hl1).trans a2⟩); have HO3 := Lib.hid ho3; have HB3 := Lib.hid hbb3; have HB23 := Lib.hid hb23; have HBR3 := Lib.hid hb3; clear ho3 hb3 hb23 hbb3)
      | (go_at_call 79; refine (Any.slices_Clone_string_nil Tryz.laysNm216 0 0 _).mono ?_; rintro e w4 ⟨rfl, rfl⟩)))
  · go_wp2_with fail
    go_ret
    have hh := FIN.out _ _ _ _ _ ((HT2.out.keep HB23.out HT2.out.lt).alloc _) (Blk.new _ _ _) (own_kept HO3.out (Kept.of_below (S := fun _ => False) ((Below.refl _ _).alloc (Nat.le_refl _) _)) fun _ _ h => h) (Nat.le_trans HB1.out.size HB2.out.size) ((HB1.out.trans (HB3.out.mono HB1.out.size)).alloc (Nat.le_trans HB1.out.size HB3.out.size) _) HB1.out.size (Nat.le_trans HB1.out.size HB3.out.size) (Nat.ne_of_lt (Nat.lt_of_lt_of_le HT2.out.lt HB23.out.size))
    simp only [World.size_alloc] at hh
    exact hh
  · go_wp2_with fail
    go_ret
    have hh := FIN.out _ _ _ _ _ ((HT2.out.keep HB23.out HT2.out.lt).alloc _) (Blk.new _ _ _) (own_kept HO3.out (Kept.of_below (S := fun _ => False) ((Below.refl _ _).alloc (Nat.le_refl _) _)) fun _ _ h => h) (Nat.le_trans HB1.out.size HB2.out.size) ((HB1.out.trans (HB3.out.mono HB1.out.size)).alloc (Nat.le_trans HB1.out.size HB3.out.size) _) HB1.out.size (Nat.le_trans HB1.out.size HB3.out.size) (Nat.ne_of_lt (Nat.lt_of_lt_of_le HT2.out.lt HB23.out.size))
    simp only [World.size_alloc] at hh
    exact hh
  · go_wp2_with fail
    go_ret
    exact FIN.out _ _ _ _ _ (HT2.out.keep HB23.out HT2.out.lt) ((Blk.new w2 _ _).keep HBR3.out (by simp)) HO3.out (Nat.le_trans HB1.out.size (Nat.le_trans HB2.out.size (by simp))) (HB1.out.trans (HB3.out.mono HB1.out.size)) HB1.out.size (Nat.le_trans HB1.out.size HB2.out.size) (Nat.ne_of_lt HT2.out.lt)
  · go_wp2_with fail
    go_ret
    have ht := HT2.out.keep HB23.out HT2.out.lt
    rw [show ((w1.alloc (.cells #[.slice none 0 0, .slice none 0 0, .int .i64 (-1)] 123)).drew).heap.size = w1.heap.size + 1 by simp] at ht
    exact FIN.out _ _ _ _ _ ht (((Blk.new w1 _ _).drew.keep HBR2.out (by simp)).keep HB23.out (by have := HBR2.out.size; simp at this; omega)) HO3.out (Nat.le_trans HB1.out.size HB2.out.size) (HB1.out.trans (HB3.out.mono HB1.out.size)) (by have := HB1.out.size; omega) HB1.out.size (by omega)

end Go.Proofs.YtjdcjdclipbjhaaGreatDoor

/-
  The walk of opt.Parse. Conditions: the arguments lie in memory; together they are short.
-/
namespace Go.Proofs.YtjdcjdclipbjhaaGreatDoor
open Go.RowKit Go.Shelf Go.Maps

namespace Op
/-- What is still to come: arguments; the letters of one of them. -/
def outerF (kf : UInt8 → Nat) (opts : List (UInt8 × Bytes)) (rest : List Bytes) : Option (List (UInt8 × Bytes) × List Bytes) :=
  match parseF kf rest.length rest with
  | none => none
  | some (l, o) => some (opts ++ l, o)
def contF (kf : UInt8 → Nat) (opts : List (UInt8 × Bytes)) (t : Bytes) (rest : List Bytes) : Option (List (UInt8 × Bytes) × List Bytes) :=
  match wordF kf t rest with
  | none => none
  | some (l, r) => outerF kf (opts ++ l) r
theorem outer_nil (kf : UInt8 → Nat) (opts : List (UInt8 × Bytes)) : outerF kf opts [] = some (opts, []) := by simp [outerF, parseF]
theorem outer_stop (kf : UInt8 → Nat) (opts : List (UInt8 × Bytes)) (a : Bytes) (r : List Bytes) (h : a.length < 2 ∨ a.head? ≠ some 45) : outerF kf opts (a :: r) = some (opts, a :: r) := by
  simp only [outerF, List.length_cons, parseF, if_pos h, List.append_nil]
theorem outer_dd (kf : UInt8 → Nat) (opts : List (UInt8 × Bytes)) (r : List Bytes) : outerF kf opts ([45, 45] :: r) = some (opts, r) := by
  simp [outerF, parseF]
theorem outer_word (kf : UInt8 → Nat) (opts : List (UInt8 × Bytes)) (a : Bytes) (r : List Bytes) (h : ¬ (a.length < 2 ∨ a.head? ≠ some 45)) (h2 : a ≠ [45, 45]) : outerF kf opts (a :: r) = contF kf opts (a.drop 1) r := by
  unfold outerF contF
  rw [List.length_cons, parseF, if_neg h, if_neg h2]
  cases hw : wordF kf (a.drop 1) r with
  | none => rfl
  | some x =>
    obtain ⟨l, r'⟩ := x
    have := wordF_len kf _ _ _ _ hw
    simp only [outerF]
    rw [parse_fuel kf r.length r'.length r' this (Nat.le_refl _)]
    cases parseF kf r'.length r' with
    | none => rfl
    | some y => obtain ⟨l2, o⟩ := y; simp
theorem cont_nil (kf : UInt8 → Nat) (opts : List (UInt8 × Bytes)) (rest : List Bytes) : contF kf opts [] rest = outerF kf opts rest := by simp [contF, wordF]
theorem cont_none (kf : UInt8 → Nat) (opts : List (UInt8 × Bytes)) (c : UInt8) (t : Bytes) (rest : List Bytes) (h : kf c = 0) : contF kf opts (c :: t) rest = none := by simp [contF, wordF, h]
theorem cont_alone (kf : UInt8 → Nat) (opts : List (UInt8 × Bytes)) (c : UInt8) (t : Bytes) (rest : List Bytes) (h : kf c = 1) : contF kf opts (c :: t) rest = contF kf (opts ++ [(c, [])]) t rest := by
  have e : wordF kf (c :: t) rest = match wordF kf t rest with
      | none => none
      | some (l, r') => some ((c, []) :: l, r') := by
    simp [wordF, h]
    cases wordF kf t rest <;> rfl
  unfold contF
  rw [e]
  cases wordF kf t rest with
  | none => rfl
  | some y => obtain ⟨l2, o⟩ := y; simp
theorem cont_rest (kf : UInt8 → Nat) (opts : List (UInt8 × Bytes)) (c : UInt8) (t : Bytes) (rest : List Bytes) (h0 : kf c ≠ 0) (h1 : kf c ≠ 1) (ht : t ≠ []) : contF kf opts (c :: t) rest = outerF kf (opts ++ [(c, t)]) rest := by
  simp [contF, wordF, h0, h1, ht]
theorem cont_miss (kf : UInt8 → Nat) (opts : List (UInt8 × Bytes)) (c : UInt8) (h0 : kf c ≠ 0) (h1 : kf c ≠ 1) : contF kf opts [c] [] = none := by
  simp [contF, wordF, h0, h1]
theorem cont_next (kf : UInt8 → Nat) (opts : List (UInt8 × Bytes)) (c : UInt8) (x : Bytes) (rest : List Bytes) (h0 : kf c ≠ 0) (h1 : kf c ≠ 1) : contF kf opts [c] (x :: rest) = contF kf (opts ++ [(c, x)]) [] rest := by
  simp [contF, wordF, h0, h1]
end Op

/-- Options as values. -/
def optVals (l : List (UInt8 × Bts)) : List Value := l.flatMap fun x => [.int .u8 x.1.toNat, .string ⟨x.2.toArray⟩]
theorem optVals_len (l : List (UInt8 × Bts)) : (optVals l).length = l.length * 2 := by
  induction l with
  | nil => rfl
  | cons x r ih => simp only [optVals, List.flatMap_cons, List.length_append, List.length_cons, List.length_nil] at ih ⊢; omega
theorem optVals_at : ∀ (l : List (UInt8 × Bts)) (i : Nat), i < l.length → (optVals l)[i * 2]? = some (.int .u8 (l.getD i (0, [])).1.toNat) ∧ (optVals l)[i * 2 + 1]? = some (.string ⟨(l.getD i (0, [])).2.toArray⟩)
  | [], i, h => absurd h (by simp)
  | x :: r, 0, _ => ⟨rfl, rfl⟩
  | x :: r, i + 1, h => by
    have := optVals_at r i (by simpa using h)
    have e : optVals (x :: r) = .int .u8 x.1.toNat :: .string ⟨x.2.toArray⟩ :: optVals r := rfl
    rw [e, show (i + 1) * 2 = i * 2 + 1 + 1 by omega]
    exact this
theorem optVals_app (a b : List (UInt8 × Bts)) : optVals (a ++ b) = optVals a ++ optVals b := by simp [optVals]
theorem info_opt : (Tryz.prog.info? 280).map (fun i => (i.zero, i.size, i.bytes)) = some (some (.agg #[.int .u8 0, .string ⟨#[]⟩]), 2, 24) := by kernel_rfl
def OptsOwn (w : World) (B : Nat) (v : Value) (l : List (UInt8 × Bts)) : Prop := w.ownsRow B 280 2 v l.length (optVals l)
theorem opt_push {w wr w5 : World} {base : Nat} {v v' : Value} {l : List (UInt8 × Bts)} {x : UInt8 × Bts}
    (h2 : OptsOwn wr base v l) (hb : Below base w wr) (hB : base ≤ wr.heap.size) {o : Obj}
    (hown : w5.ownsRow base 280 2 v' (l.length + 1) (optVals l ++ [.int .u8 x.1.toNat, .string ⟨x.2.toArray⟩])) (hg : (wr.alloc o).grownBy w5 v.ownBlock) :
    OptsOwn w5 base v' (l ++ [x]) ∧ Below base w w5 := by
  refine ⟨?_, (hb.alloc hB o).grown hg (by simp; omega) fun j hj => (h2.lt j hj).1⟩
  unfold OptsOwn
  rw [optVals_app, List.length_append]
  exact hown

/-- What Parse hands back. -/
def ParsePost (w : World) (r : Option (List (UInt8 × Bts) × List Bts)) (e : Ending) (w' : World) : Prop :=
  Below w.heap.size w w' ∧ match r with
  | none => e = .returned (.tuple #[.slice none 0 0, .slice none 0 0, .int .i64 19])
  | some (l, o) => ∃ lv ov, e = .returned (.tuple #[lv, ov, .int .i64 0]) ∧ OptsOwn w' w.heap.size lv l ∧ StrsOwn w' w.heap.size ov o

def totL (l : List Bts) : Nat := (l.map fun a => a.length + 1).sum
theorem totL_cons (a : Bts) (r : List Bts) : totL (a :: r) = a.length + 1 + totL r := by simp [totL]
theorem Ss.tail {w : World} {b o : Nat} {a : Bts} {r : List Bts} (h : Ss w (some ⟨b, o, none⟩) (a :: r)) : w.cell? ⟨b, o, none⟩ = some (strV a) ∧ Ss w (some ⟨b, o + 1, none⟩) r := by
  obtain ⟨b', o', e, hc⟩ := h (by simp)
  simp at e
  obtain ⟨rfl, rfl⟩ := e
  refine ⟨by simpa using hc 0 (by simp), fun _ => ⟨b, o + 1, rfl, fun i hi => ?_⟩⟩
  have := hc (i + 1) (by simpa using hi)
  rw [show o + 1 + i = o + (i + 1) by omega, this]
  simp

end Go.Proofs.YtjdcjdclipbjhaaGreatDoor
