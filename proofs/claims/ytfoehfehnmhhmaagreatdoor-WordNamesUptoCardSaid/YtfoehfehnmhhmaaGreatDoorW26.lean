/-
  The walks of caught, and of Value. Condition: lengths.
-/
import Derived.Test.YtfoehfehnmhhmaaGreatDoorW25
namespace Go.Proofs.YtfoehfehnmhhmaaGreatDoor
open Go.RowKit Go.Shelf Go.Maps

theorem catch_idle (p : Addr) (w : World) :
    CallsD Tryz.prog 33 #[.pointer (some p)] .returning w fun e u' w' => e = .returned (.tuple #[]) ∧ u' = .returning ∧ w' = w := by
  refine callsD_of_wpS Tryz.func33 rfl fun c₀ cs hu => ?_
  apply wpS_seq
  apply wpS_region
  simp [wpOpsS, go_sem, recoverD, hu, Tryz.ntmps33, Exit.thenS]
  refine wpS_of_wp ?_
  change Code.wp _ _ _ { tmps := #[.pointer (some p), .nilIface, undef, undef, .nilIface, undef, undef, undef, undef, undef, undef, undef, undef, undef, undef, undef, undef], defers := [] } _
  go_wp2_with fail
  cases c₀
  simp_all [bodyPostS, results, Tryz.results33]

set_option maxHeartbeats 1600000 in
set_option maxRecDepth 100000 in
theorem caught_value (w : World) (q q2 : Nat) (P : World → Prop) (S : Nat → Prop) (hS : ¬ S w.heap.size)
    (h : Calls Tryz.prog 20 #[.pointer (some ⟨q, 0, none⟩), .pointer (some ⟨q2, 0, none⟩)] (w.alloc (.cells #[.int .i64 0] 26)) fun e w' => e = .returned (.tuple #[]) ∧ P w' ∧ Kept S (w.alloc (.cells #[.int .i64 0] 26)) w') :
    Calls Tryz.prog 19 #[.func (.func 20) #[] #[.pointer (some ⟨q, 0, none⟩), .pointer (some ⟨q2, 0, none⟩)]] w fun e w' => e = .returned (.int .i64 0) ∧ ∃ w1, P w1 ∧ Kept S (w.alloc (.cells #[.int .i64 0] 26)) w1 ∧ w' = w1.setCell ⟨w.heap.size, 0, none⟩ (.int .i64 0) := by
  have hmf : ∀ (fn : Fn) (first cap : Array Value) (w : World), (Instr.makeFunc fn first cap).run Tryz.prog w = .ok (.func fn first cap) w := fun _ _ _ _ => rfl
  have hq := Blk.new w #[.int .i64 0] 26
  go_enter_defers Tryz.func19, Tryz.ntmps19
  go_wp2_with fail
  refine h.mono ?_
  rintro e w1 ⟨rfl, hP, hk⟩
  have hq1 := hq.kept hk hS
  have c1 := hq1.cell 0 (v := .int .i64 0) rfl
  have f1 := hq1.free 0
  have HP := Lib.hid hP
  have HK := Lib.hid hk
  have HQ := Lib.hid hq1
  clear h hq hP hk hq1
  go_wp2_with fail
  have hq2 : Blk (w1.setCell ⟨w.heap.size, 0, none⟩ (.int .i64 0)) w.heap.size #[.int .i64 0] 26 := HQ.out.set 0 _
  have c2 := hq2.cell 0 (v := .int .i64 0) rfl
  refine leaves_cons (f := 33) (args := #[.pointer (some ⟨w.heap.size, 0, none⟩)]) (by simp) (by simp [go_sem]) ?_
  refine (catch_idle ⟨w.heap.size, 0, none⟩ _).mono ?_
  rintro e u' w9 ⟨rfl, rfl, rfl⟩
  refine ⟨.int .i64 0, by simp [results, Tryz.results19, go_sem, c2], ?_⟩
  exact ⟨rfl, w1, HP.out, HK.out, rfl⟩

set_option maxHeartbeats 1600000 in
set_option maxRecDepth 100000 in
theorem caught_expand (w : World) (q q2 : Nat) (P : World → Prop) (S : Nat → Prop) (hS : ¬ S w.heap.size)
    (h : Calls Tryz.prog 50 #[.pointer (some ⟨q, 0, none⟩), .pointer (some ⟨q2, 0, none⟩)] (w.alloc (.cells #[.int .i64 0] 26)) fun e w' => e = .returned (.tuple #[]) ∧ P w' ∧ Kept S (w.alloc (.cells #[.int .i64 0] 26)) w') :
    Calls Tryz.prog 19 #[.func (.func 50) #[] #[.pointer (some ⟨q, 0, none⟩), .pointer (some ⟨q2, 0, none⟩)]] w fun e w' => e = .returned (.int .i64 0) ∧ ∃ w1, P w1 ∧ Kept S (w.alloc (.cells #[.int .i64 0] 26)) w1 ∧ w' = w1.setCell ⟨w.heap.size, 0, none⟩ (.int .i64 0) := by
  have hmf : ∀ (fn : Fn) (first cap : Array Value) (w : World), (Instr.makeFunc fn first cap).run Tryz.prog w = .ok (.func fn first cap) w := fun _ _ _ _ => rfl
  have hq := Blk.new w #[.int .i64 0] 26
  go_enter_defers Tryz.func19, Tryz.ntmps19
  go_wp2_with fail
  refine h.mono ?_
  rintro e w1 ⟨rfl, hP, hk⟩
  have hq1 := hq.kept hk hS
  have c1 := hq1.cell 0 (v := .int .i64 0) rfl
  have f1 := hq1.free 0
  have HP := Lib.hid hP
  have HK := Lib.hid hk
  have HQ := Lib.hid hq1
  clear h hq hP hk hq1
  go_wp2_with fail
  have hq2 : Blk (w1.setCell ⟨w.heap.size, 0, none⟩ (.int .i64 0)) w.heap.size #[.int .i64 0] 26 := HQ.out.set 0 _
  have c2 := hq2.cell 0 (v := .int .i64 0) rfl
  refine leaves_cons (f := 33) (args := #[.pointer (some ⟨w.heap.size, 0, none⟩)]) (by simp) (by simp [go_sem]) ?_
  refine (catch_idle ⟨w.heap.size, 0, none⟩ _).mono ?_
  rintro e u' w9 ⟨rfl, rfl, rfl⟩
  refine ⟨.int .i64 0, by simp [results, Tryz.results19, go_sem, c2], ?_⟩
  exact ⟨rfl, w1, HP.out, HK.out, rfl⟩

set_option maxHeartbeats 1600000 in
set_option maxRecDepth 100000 in
theorem caught_lex (w : World) (q : Nat) (P : World → Prop) (S : Nat → Prop) (hS : ¬ S w.heap.size)
    (h : Calls Tryz.prog 31 #[.pointer (some ⟨q, 0, none⟩)] (w.alloc (.cells #[.int .i64 0] 26)) fun e w' => e = .returned (.tuple #[]) ∧ P w' ∧ Kept S (w.alloc (.cells #[.int .i64 0] 26)) w') :
    Calls Tryz.prog 19 #[.func (.func 31) #[] #[.pointer (some ⟨q, 0, none⟩)]] w fun e w' => e = .returned (.int .i64 0) ∧ ∃ w1, P w1 ∧ Kept S (w.alloc (.cells #[.int .i64 0] 26)) w1 ∧ w' = w1.setCell ⟨w.heap.size, 0, none⟩ (.int .i64 0) := by
  have hmf : ∀ (fn : Fn) (first cap : Array Value) (w : World), (Instr.makeFunc fn first cap).run Tryz.prog w = .ok (.func fn first cap) w := fun _ _ _ _ => rfl
  have hq := Blk.new w #[.int .i64 0] 26
  go_enter_defers Tryz.func19, Tryz.ntmps19
  go_wp2_with fail
  refine h.mono ?_
  rintro e w1 ⟨rfl, hP, hk⟩
  have hq1 := hq.kept hk hS
  have c1 := hq1.cell 0 (v := .int .i64 0) rfl
  have f1 := hq1.free 0
  have HP := Lib.hid hP
  have HK := Lib.hid hk
  have HQ := Lib.hid hq1
  clear h hq hP hk hq1
  go_wp2_with fail
  have hq2 : Blk (w1.setCell ⟨w.heap.size, 0, none⟩ (.int .i64 0)) w.heap.size #[.int .i64 0] 26 := HQ.out.set 0 _
  have c2 := hq2.cell 0 (v := .int .i64 0) rfl
  refine leaves_cons (f := 33) (args := #[.pointer (some ⟨w.heap.size, 0, none⟩)]) (by simp) (by simp [go_sem]) ?_
  refine (catch_idle ⟨w.heap.size, 0, none⟩ _).mono ?_
  rintro e u' w9 ⟨rfl, rfl, rfl⟩
  refine ⟨.int .i64 0, by simp [results, Tryz.results19, go_sem, c2], ?_⟩
  exact ⟨rfl, w1, HP.out, HK.out, rfl⟩

set_option maxRecDepth 100000 in
/-- The functions that run. -/
theorem value1_any (w : World) (f q q2 b : Nat) (vv av v : Value) (x y : Wd.Ex) (s : Wd.Bytes) (h : ExAt w b vv av x v) (hg : Glo w) (h8 : 8 ≤ b) (hs : s.length < 1073741824)
    (kq : w.cell? ⟨q, 0, none⟩ = some (.pointer (some ⟨b, 0, none⟩))) (kq2 : w.cell? ⟨q2, 0, none⟩ = some (.string ⟨s.toArray⟩)) (hr : Wd.run f x s false = some y) :
    Calls Tryz.prog 20 #[.pointer (some ⟨q, 0, none⟩), .pointer (some ⟨q2, 0, none⟩)] w fun e w' => e = .returned (.tuple #[]) ∧ ∃ v', ExIs w w' b vv av y v v' := by
  have hrun := (all_any f).1 w b vv av v x y s false h hg h8 hs hr
  clear h hr hg
  go_enter Tryz.func20, Tryz.ntmps20
  go_wp2_with fail
  refine hrun.mono ?_
  rintro e w1 ⟨rfl, v1, hx⟩
  have HX := Lib.hid hx
  clear hx hrun
  go_wp2_with fail
  refine bodyPost_end (results_none rfl _ _ _) rfl ?_
  exact ⟨rfl, v1, HX.out⟩
set_option maxRecDepth 100000 in
theorem expand1_any (w : World) (f q q2 b : Nat) (vv av v : Value) (x y : Wd.Ex) (s : Wd.Bytes) (h : ExAt w b vv av x v) (hg : Glo w) (h8 : 8 ≤ b) (hs : s.length < 1073741824)
    (kq : w.cell? ⟨q, 0, none⟩ = some (.pointer (some ⟨b, 0, none⟩))) (kq2 : w.cell? ⟨q2, 0, none⟩ = some (.string ⟨s.toArray⟩)) (hr : Wd.run f x s false = some y) :
    Calls Tryz.prog 50 #[.pointer (some ⟨q, 0, none⟩), .pointer (some ⟨q2, 0, none⟩)] w fun e w' => e = .returned (.tuple #[]) ∧ ∃ v', ExIs w w' b vv av y v v' := by
  have hrun := (all_any f).1 w b vv av v x y s false h hg h8 hs hr
  clear h hr hg
  go_enter Tryz.func50, Tryz.ntmps50
  go_wp2_with fail
  refine hrun.mono ?_
  rintro e w1 ⟨rfl, v1, hx⟩
  have HX := Lib.hid hx
  clear hx hrun
  go_wp2_with fail
  refine bodyPost_end (results_none rfl _ _ _) rfl ?_
  exact ⟨rfl, v1, HX.out⟩

end Go.Proofs.YtfoehfehnmhhmaaGreatDoor
