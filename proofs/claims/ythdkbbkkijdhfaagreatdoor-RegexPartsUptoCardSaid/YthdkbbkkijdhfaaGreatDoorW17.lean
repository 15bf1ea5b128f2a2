/-
  The walk of read: the deferred closure, the reader's end. Condition: what is told lies in memory.
-/
import Derived.Test.YthdkbbkkijdhfaaGreatDoorW16
import Derived.Tactics
import Derived.Tactics2
import Derived.Defers
import Derived.Recover
import Derived.Laws.Pointers
namespace Go.Proofs.YthdkbbkkijdhfaaGreatDoor
open Go.RowKit Go.Shelf Go.Maps

theorem catch_idle (p : Addr) (w : World) :
    CallsD Tryz.prog 52 #[.pointer (some p)] .returning w fun e u' w' => e = .returned (.tuple #[]) ∧ u' = .returning ∧ w' = w := by
  refine callsD_of_wpS Tryz.func52 rfl fun c₀ cs hu => ?_
  apply wpS_seq
  apply wpS_region
  simp [wpOpsS, go_sem, recoverD, hu, Tryz.ntmps52, Exit.thenS]
  refine wpS_of_wp ?_
  change Code.wp _ _ _ { tmps := #[.pointer (some p), .nilIface, undef, undef, .nilIface, undef, undef, undef, undef, undef, undef, undef, undef, undef, undef], defers := [] } _
  go_wp2_with fail
  cases c₀
  simp_all [bodyPostS, results, Tryz.results52]

theorem ta_broken (w : World) : (Instr.typeAssert (.iface 98 (.agg #[])) 20 98 true).run Tryz.prog w = .ok (.tuple #[.agg #[], .bool true]) w := by kernel_rfl

set_option maxRecDepth 100000 in
theorem catch_panicking (q : Nat) (x : Value) (older : List PanicEntry) (w : World) (hc : w.cell? ⟨q, 0, none⟩ = some x) (hz : w.frozen? ⟨q, 0, none⟩ = false) :
    CallsD Tryz.prog 52 #[.pointer (some ⟨q, 0, none⟩)] (.panicking ({ v := brokenV, recovered := false } :: older)) w fun e u' w' =>
      e = .returned (.tuple #[]) ∧ u' = .panicking ({ v := brokenV, recovered := true } :: older) ∧ w' = (w.alloc (.cells #[] 98)).setCell ⟨q, 0, none⟩ (.pointer none) := by
  refine callsD_of_wpS Tryz.func52 rfl fun c₀ cs hu => ?_
  apply wpS_seq
  apply wpS_region
  simp [wpOpsS, go_sem, recoverD, hu, Tryz.ntmps52, Exit.thenS, brokenV]
  refine wpS_of_wp ?_
  change Code.wp _ _ _ { tmps := #[.pointer (some ⟨q, 0, none⟩), .iface 98 (.agg #[]), undef, undef, .iface 98 (.agg #[]), undef, undef, undef, undef, undef, undef, undef, undef, undef, undef], defers := [] } _
  have hta := ta_broken
  have hc2 := new_cell hc (.cells #[] 98)
  have hz2 := new_frozen hc hz (.cells #[] 98)
  go_wp2_with fail
  simp [bodyPostS, results, Tryz.results52]

/-- What read hands back, and leaves of the world: a node, or none. -/
def ReadPost (B : Nat) (x : Option Rx.Nd) (e : Ending) (w' : World) : Prop := match x with
  | none => e = .returned (.pointer none)
  | some n => ∃ p, e = .returned (.pointer (some ⟨p, 0, none⟩)) ∧ NdAt w' B p n

/-- The end of read. -/
def readEnd (x : Option (Rx.Nd × Rx.Bytes)) : Option Rx.Nd := match x with
  | some (n, []) => some n
  | _ => none

set_option maxHeartbeats 1600000 in
set_option maxRecDepth 100000 in
theorem read_true (r : Nat) (s : Rx.Bytes) (fold : Bool) (w : World) (hr : Rd w r s true fold) :
    Calls Tryz.prog 37 #[.pointer (some ⟨r, 0, none⟩)] w fun e w' => ReadPost w.heap.size (Rx.read s true fold) e w' ∧ Kept (· = r) w w' := by
  have hmf : ∀ (fn : Fn) (first cap : Array Value) (w : World), (Instr.makeFunc fn first cap).run Tryz.prog w = .ok (.func fn first cap) w := fun _ _ _ _ => rfl
  have HX : Hid (Rx.read s true fold = readEnd (branchesN fold (3 * s.length + 4) s)) := by show _ = _; rfl
  generalize Rx.read s true fold = RES at HX ⊢
  have G : Go1 w w r s true fold := ⟨hr, Kept.refl _ _⟩
  have hrlt := hr.lt
  have G0 := G.go (hr.at_.alloc (.cells #[.pointer none] 45)) ((Kept.refl _ _).alloc _) (Nat.le_refl _)
  have hq := Blk.new w #[.pointer none] 45
  have hqs : (w.alloc (.cells #[.pointer none] 45)).heap.size = w.heap.size + 1 := by simp
  have c1 := G0.ext
  have hbc := (ext_all fold s.length).2.2 s (Nat.le_refl _) (3 * s.length + 4) (by omega) r _ G0.rd
  clear hr G
  go_enter_defers Tryz.func37, Tryz.ntmps37
  go_wp2_with fail
  generalize w.alloc (.cells #[.pointer none] 45) = w1 at *
  clear c1
  rcases hx : branchesN fold (3 * s.length + 4) s with _ | ⟨n, s1⟩
  · rw [hx] at hbc HX
    refine hbc.mono ?_
    rintro e w2 ⟨rfl, hk⟩
    have hq2 : Blk w2 w.heap.size #[.pointer none] 45 := hq.kept hk (by omega)
    have hK2 := G0.kept.trans hk
    clear hbc hx
    go_wp2_with fail
    refine leaves_cons (f := 52) (args := #[.pointer (some ⟨w.heap.size, 0, none⟩)]) (by simp) (by simp [go_sem]) ?_
    refine (catch_panicking w.heap.size (.pointer none) [] _ (hq2.cell 0 rfl) (hq2.free 0)).mono ?_
    rintro e u' w9 ⟨rfl, rfl, rfl⟩
    have hq9 : Blk _ w.heap.size #[.pointer none] 45 := (hq2.alloc (.cells #[] 98)).set 0 (.pointer none)
    have c9 := hq9.cell 0 (v := .pointer none) rfl
    refine ⟨.pointer none, by simp [results, Tryz.results37, go_sem, c9], ?_⟩
    rw [show RES = none from by rw [HX.out]; rfl]
    exact ⟨rfl, (hK2.alloc _).setCell (.inr (Nat.le_refl _)) 0 _⟩
  · rw [hx] at hbc HX
    refine hbc.mono ?_
    rintro e w2 ⟨⟨p, rfl, hr2, hn2⟩, hk⟩
    have hq2 : Blk w2 w.heap.size #[.pointer none] 45 := hq.kept hk (by omega)
    have hq3 : Blk (w2.setCell ⟨w.heap.size, 0, none⟩ (.pointer (some ⟨p, 0, none⟩))) w.heap.size #[.pointer (some ⟨p, 0, none⟩)] 45 := hq2.set 0 _
    have cq := hq2.cell 0 (v := .pointer none) rfl
    have fq := hq2.free 0
    have hK3 : Kept (· = r) w (w2.setCell ⟨w.heap.size, 0, none⟩ (.pointer (some ⟨p, 0, none⟩))) := (G0.kept.trans hk).setCell (.inr (Nat.le_refl _)) 0 _
    have hr3 : RdAt (w2.setCell ⟨w.heap.size, 0, none⟩ (.pointer (some ⟨p, 0, none⟩))) r s1 true fold := hr2.setOther (a := ⟨w.heap.size, 0, none⟩) (by show r ≠ w.heap.size; omega) _
    have HN3 : Hid (NdAt (w2.setCell ⟨w.heap.size, 0, none⟩ (.pointer (some ⟨p, 0, none⟩))) (w.heap.size + 1) p n) := by
      have hk3 : Kept (· = w.heap.size) w2 (w2.setCell ⟨w.heap.size, 0, none⟩ (.pointer (some ⟨p, 0, none⟩))) := (Kept.refl (· = w.heap.size) _).setCell (.inl rfl) 0 _
      rw [hqs] at hn2
      exact hn2.kept hk3 fun k hk e => by omega
    have c0 : (w2.setCell ⟨w.heap.size, 0, none⟩ (.pointer (some ⟨p, 0, none⟩))).cell? ⟨r, 0, none⟩ = some (.string ⟨s1.toArray⟩) := Blk.cell hr3 0 rfl
    have HK3 := Lib.hid hK3
    have HQ3 := Lib.hid hq3
    clear hbc hx hk hn2 hr2 hr3 hK3 hq3
    cases s1 with
    | cons c t =>
      go_wp2_with fail
      refine (fail_any _).mono ?_
      rintro e w4 ⟨rfl, rfl⟩
      have hq4 := HQ3.out
      go_wp2_with fail
      refine leaves_cons (f := 52) (args := #[.pointer (some ⟨w.heap.size, 0, none⟩)]) (by simp) (by simp [go_sem]) ?_
      refine (catch_panicking w.heap.size (.pointer (some ⟨p, 0, none⟩)) [] _ (hq4.cell 0 rfl) (hq4.free 0)).mono ?_
      rintro e u' w9 ⟨rfl, rfl, rfl⟩
      have hq9 : Blk _ w.heap.size #[.pointer none] 45 := (hq4.alloc (.cells #[] 98)).set 0 (.pointer none)
      have c9 := hq9.cell 0 (v := .pointer none) rfl
      refine ⟨.pointer none, by simp [results, Tryz.results37, go_sem, c9], ?_⟩
      rw [show RES = none from by rw [HX.out]; rfl]
      exact ⟨rfl, (HK3.out.alloc _).setCell (.inr (Nat.le_refl _)) 0 _⟩
    | nil =>
      have c3 := HQ3.out.cell 0 (v := .pointer (some ⟨p, 0, none⟩)) rfl
      have f3 := HQ3.out.free 0
      go_wp2_with fail
      have hq5 : Blk _ w.heap.size #[.pointer (some ⟨p, 0, none⟩)] 45 := HQ3.out.set 0 (.pointer (some ⟨p, 0, none⟩))
      have c5 := hq5.cell 0 (v := .pointer (some ⟨p, 0, none⟩)) rfl
      refine leaves_cons (f := 52) (args := #[.pointer (some ⟨w.heap.size, 0, none⟩)]) (by simp) (by simp [go_sem]) ?_
      refine (catch_idle ⟨w.heap.size, 0, none⟩ _).mono ?_
      rintro e u' w9 ⟨rfl, rfl, rfl⟩
      refine ⟨.pointer (some ⟨p, 0, none⟩), by simp [results, Tryz.results37, go_sem, c5], ?_⟩
      have hk5 : Kept (· = w.heap.size) (w2.setCell ⟨w.heap.size, 0, none⟩ (.pointer (some ⟨p, 0, none⟩))) _ := (Kept.refl (· = w.heap.size) _).setCell (.inl rfl) 0 (.pointer (some ⟨p, 0, none⟩))
      rw [show RES = some n from by rw [HX.out]; rfl]
      exact ⟨⟨p, rfl, (HN3.out.kept hk5 fun k hk e => by omega).mono fun k hk => by omega⟩, HK3.out.setCell (.inr (Nat.le_refl _)) 0 _⟩

set_option maxHeartbeats 1600000 in
set_option maxRecDepth 100000 in
theorem read_false (r : Nat) (s : Rx.Bytes) (fold : Bool) (w : World) (hr : Rd w r s false fold) :
    Calls Tryz.prog 37 #[.pointer (some ⟨r, 0, none⟩)] w fun e w' => ReadPost w.heap.size (Rx.read s false fold) e w' ∧ Kept (· = r) w w' := by
  have hmf : ∀ (fn : Fn) (first cap : Array Value) (w : World), (Instr.makeFunc fn first cap).run Tryz.prog w = .ok (.func fn first cap) w := fun _ _ _ _ => rfl
  have HX : Hid (Rx.read s false fold = readEnd (Rx.basic fold (3 * s.length + 4) s)) := by show _ = _; rfl
  generalize Rx.read s false fold = RES at HX ⊢
  have G : Go1 w w r s false fold := ⟨hr, Kept.refl _ _⟩
  have hrlt := hr.lt
  have G0 := G.go (hr.at_.alloc (.cells #[.pointer none] 45)) ((Kept.refl _ _).alloc _) (Nat.le_refl _)
  have hq := Blk.new w #[.pointer none] 45
  have hqs : (w.alloc (.cells #[.pointer none] 45)).heap.size = w.heap.size + 1 := by simp
  have c1 := G0.ext
  have hbc := (bas_all fold s.length).2 s (Nat.le_refl _) (3 * s.length + 4) (by omega) r _ G0.rd
  clear hr G
  go_enter_defers Tryz.func37, Tryz.ntmps37
  go_wp2_with fail
  generalize w.alloc (.cells #[.pointer none] 45) = w1 at *
  clear c1
  rcases hx : Rx.basic fold (3 * s.length + 4) s with _ | ⟨n, s1⟩
  · rw [hx] at hbc HX
    refine hbc.mono ?_
    rintro e w2 ⟨rfl, hk⟩
    have hq2 : Blk w2 w.heap.size #[.pointer none] 45 := hq.kept hk (by omega)
    have hK2 := G0.kept.trans hk
    clear hbc hx
    go_wp2_with fail
    refine leaves_cons (f := 52) (args := #[.pointer (some ⟨w.heap.size, 0, none⟩)]) (by simp) (by simp [go_sem]) ?_
    refine (catch_panicking w.heap.size (.pointer none) [] _ (hq2.cell 0 rfl) (hq2.free 0)).mono ?_
    rintro e u' w9 ⟨rfl, rfl, rfl⟩
    have hq9 : Blk _ w.heap.size #[.pointer none] 45 := (hq2.alloc (.cells #[] 98)).set 0 (.pointer none)
    have c9 := hq9.cell 0 (v := .pointer none) rfl
    refine ⟨.pointer none, by simp [results, Tryz.results37, go_sem, c9], ?_⟩
    rw [show RES = none from by rw [HX.out]; rfl]
    exact ⟨rfl, (hK2.alloc _).setCell (.inr (Nat.le_refl _)) 0 _⟩
  · rw [hx] at hbc HX
    refine hbc.mono ?_
    rintro e w2 ⟨⟨p, rfl, hr2, hn2⟩, hk⟩
    have hq2 : Blk w2 w.heap.size #[.pointer none] 45 := hq.kept hk (by omega)
    have hq3 : Blk (w2.setCell ⟨w.heap.size, 0, none⟩ (.pointer (some ⟨p, 0, none⟩))) w.heap.size #[.pointer (some ⟨p, 0, none⟩)] 45 := hq2.set 0 _
    have cq := hq2.cell 0 (v := .pointer none) rfl
    have fq := hq2.free 0
    have hK3 : Kept (· = r) w (w2.setCell ⟨w.heap.size, 0, none⟩ (.pointer (some ⟨p, 0, none⟩))) := (G0.kept.trans hk).setCell (.inr (Nat.le_refl _)) 0 _
    have hr3 : RdAt (w2.setCell ⟨w.heap.size, 0, none⟩ (.pointer (some ⟨p, 0, none⟩))) r s1 false fold := hr2.setOther (a := ⟨w.heap.size, 0, none⟩) (by show r ≠ w.heap.size; omega) _
    have HN3 : Hid (NdAt (w2.setCell ⟨w.heap.size, 0, none⟩ (.pointer (some ⟨p, 0, none⟩))) (w.heap.size + 1) p n) := by
      have hk3 : Kept (· = w.heap.size) w2 (w2.setCell ⟨w.heap.size, 0, none⟩ (.pointer (some ⟨p, 0, none⟩))) := (Kept.refl (· = w.heap.size) _).setCell (.inl rfl) 0 _
      rw [hqs] at hn2
      exact hn2.kept hk3 fun k hk e => by omega
    have c0 : (w2.setCell ⟨w.heap.size, 0, none⟩ (.pointer (some ⟨p, 0, none⟩))).cell? ⟨r, 0, none⟩ = some (.string ⟨s1.toArray⟩) := Blk.cell hr3 0 rfl
    have HK3 := Lib.hid hK3
    have HQ3 := Lib.hid hq3
    clear hbc hx hk hn2 hr2 hr3 hK3 hq3
    cases s1 with
    | cons c t =>
      go_wp2_with fail
      refine (fail_any _).mono ?_
      rintro e w4 ⟨rfl, rfl⟩
      have hq4 := HQ3.out
      go_wp2_with fail
      refine leaves_cons (f := 52) (args := #[.pointer (some ⟨w.heap.size, 0, none⟩)]) (by simp) (by simp [go_sem]) ?_
      refine (catch_panicking w.heap.size (.pointer (some ⟨p, 0, none⟩)) [] _ (hq4.cell 0 rfl) (hq4.free 0)).mono ?_
      rintro e u' w9 ⟨rfl, rfl, rfl⟩
      have hq9 : Blk _ w.heap.size #[.pointer none] 45 := (hq4.alloc (.cells #[] 98)).set 0 (.pointer none)
      have c9 := hq9.cell 0 (v := .pointer none) rfl
      refine ⟨.pointer none, by simp [results, Tryz.results37, go_sem, c9], ?_⟩
      rw [show RES = none from by rw [HX.out]; rfl]
      exact ⟨rfl, (HK3.out.alloc _).setCell (.inr (Nat.le_refl _)) 0 _⟩
    | nil =>
      have c3 := HQ3.out.cell 0 (v := .pointer (some ⟨p, 0, none⟩)) rfl
      have f3 := HQ3.out.free 0
      go_wp2_with fail
      have hq5 : Blk _ w.heap.size #[.pointer (some ⟨p, 0, none⟩)] 45 := HQ3.out.set 0 (.pointer (some ⟨p, 0, none⟩))
      have c5 := hq5.cell 0 (v := .pointer (some ⟨p, 0, none⟩)) rfl
      refine leaves_cons (f := 52) (args := #[.pointer (some ⟨w.heap.size, 0, none⟩)]) (by simp) (by simp [go_sem]) ?_
      refine (catch_idle ⟨w.heap.size, 0, none⟩ _).mono ?_
      rintro e u' w9 ⟨rfl, rfl, rfl⟩
      refine ⟨.pointer (some ⟨p, 0, none⟩), by simp [results, Tryz.results37, go_sem, c5], ?_⟩
      have hk5 : Kept (· = w.heap.size) (w2.setCell ⟨w.heap.size, 0, none⟩ (.pointer (some ⟨p, 0, none⟩))) _ := (Kept.refl (· = w.heap.size) _).setCell (.inl rfl) 0 (.pointer (some ⟨p, 0, none⟩))
      rw [show RES = some n from by rw [HX.out]; rfl]
      exact ⟨⟨p, rfl, (HN3.out.kept hk5 fun k hk e => by omega).mono fun k hk => by omega⟩, HK3.out.setCell (.inr (Nat.le_refl _)) 0 _⟩

theorem read_any (r : Nat) (s : Rx.Bytes) (ext fold : Bool) (w : World) (hr : Rd w r s ext fold) :
    Calls Tryz.prog 37 #[.pointer (some ⟨r, 0, none⟩)] w fun e w' => ReadPost w.heap.size (Rx.read s ext fold) e w' ∧ Kept (· = r) w w' := by
  cases ext with
  | true => exact read_true r s fold w hr
  | false => exact read_false r s fold w hr

end Go.Proofs.YthdkbbkkijdhfaaGreatDoor
