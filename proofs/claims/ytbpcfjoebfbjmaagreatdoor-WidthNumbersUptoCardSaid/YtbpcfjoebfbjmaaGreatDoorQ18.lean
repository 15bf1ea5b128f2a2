/-
  Texts of this seat put together: D3, D4, D5, D6.
-/
import Derived.Test.YtbpcfjoebfbjmaaGreatDoorQ17
import Derived.Shelf.Slices.In.SortNone

/-
  The walks of slices.Collect, Sorted over no keys; of a directory's sorted names, of which there are none.
-/
namespace Go.Proofs.YtbpcfjoebfbjmaaGreatDoor
open Go.RowKit Go.Shelf Go.Maps

set_option maxRecDepth 100000 in
theorem collect_none (Bn a : Nat) (w : World) (hB : w.cell? ⟨Bn, 0, none⟩ = some (.map (some a))) (ha : w.heap[a]? = some (.map #[] 0)) :
    Calls Tryz.prog 194 #[.func (.func 196) #[] #[.pointer (some ⟨Bn, 0, none⟩)]] w fun e w' => e = .returned (.slice none 0 0) ∧ Below w.heap.size w w' := by
  have c := appendSeq_none Bn a w hB ha
  clear hB ha
  go_enter Tryz.func194, Tryz.ntmps194
  go_wp2_with fail
  refine c.mono ?_
  rintro e w1 ⟨rfl, hb⟩
  have HB := Lib.hid hb
  clear hb c
  go_wp2_with fail
  go_ret
  exact ⟨rfl, HB.out⟩

set_option maxRecDepth 100000 in
theorem sorted_none (Bn a : Nat) (w : World) (hB : w.cell? ⟨Bn, 0, none⟩ = some (.map (some a))) (ha : w.heap[a]? = some (.map #[] 0)) :
    Calls Tryz.prog 157 #[.func (.func 196) #[] #[.pointer (some ⟨Bn, 0, none⟩)]] w fun e w' => e = .returned (.slice none 0 0) ∧ Below w.heap.size w w' := by
  have c := collect_none Bn a w hB ha
  clear hB ha
  go_enter Tryz.func157, Tryz.ntmps157
  go_wp2_with fail
  refine c.mono ?_
  rintro e w1 ⟨rfl, hb⟩
  have HB := Lib.hid hb
  clear hb c
  go_wp2_with fail
  refine (Any.slices_Sort_string_none Tryz.lays190 none 0 _).mono ?_
  rintro e w2 ⟨rfl, rfl⟩
  go_wp2_with fail
  go_ret
  exact ⟨rfl, HB.out⟩

set_option maxRecDepth 100000 in
theorem itemSorted_none (r a : Nat) (w : World) (hr : w.cell? ⟨r, 5, none⟩ = some (.map (some a))) (ha : w.heap[a]? = some (.map #[] 0)) :
    Calls Tryz.prog 111 #[.pointer (some ⟨r, 0, none⟩)] w fun e w' => e = .returned (.slice none 0 0) ∧ Below w.heap.size w w' := by
  have hmf : ∀ (fn : Fn) (first cap : Array Value) (w : World), (Instr.makeFunc fn first cap).run Tryz.prog w = .ok (.func fn first cap) w := fun _ _ _ _ => rfl
  have hk : Calls Tryz.prog 158 #[.map (some a)] w fun e w' => e = .returned (.func (.func 196) #[] #[.pointer (some ⟨w.heap.size, 0, none⟩)]) ∧ w' = w.alloc (.cells #[.map (some a)] 174) := by
    go_enter Tryz.func158, Tryz.ntmps158
    go_wp2_with fail
    go_ret
    exact ⟨rfl, rfl⟩
  have hlt := lt_of_heap ha
  have hs := sorted_none w.heap.size a (w.alloc (.cells #[.map (some a)] 174)) (one_new w _ _).1 ((Below.heap_alloc _ _ _ hlt).trans ha)
  clear ha
  go_enter Tryz.func111, Tryz.ntmps111
  go_wp2_with fail
  refine hk.mono ?_
  rintro e w1 ⟨rfl, rfl⟩
  go_wp2_with fail
  refine hs.mono ?_
  rintro e w2 ⟨rfl, hb⟩
  have HB := Lib.hid (below_new hb)
  clear hb hs hk
  go_wp2_with fail
  go_ret
  exact ⟨rfl, HB.out⟩

end Go.Proofs.YtbpcfjoebfbjmaaGreatDoor

/-
  The walks of a directory's walk, of its iterator: no entries. Condition: the directory has no names.
-/
namespace Go.Proofs.YtbpcfjoebfbjmaaGreatDoor
open Go.RowKit Go.Shelf Go.Maps
attribute [local go_sem] Oper.semAt_some

set_option maxRecDepth 100000 in
set_option maxHeartbeats 2000000 in
theorem walk1_calls (l B1 B2 r a : Nat) (W : World) (h1 : W.cell? ⟨B1, 0, none⟩ = some (.pointer (some ⟨r, 0, none⟩))) (hr : W.cell? ⟨r, 5, none⟩ = some (.map (some a))) (ha : W.heap[a]? = some (.map #[] 0)) :
    Calls Tryz.prog 110 #[.func (.yield l) #[] #[], .pointer (some ⟨B1, 0, none⟩), .pointer (some ⟨B2, 0, none⟩)] W fun e W' => (∃ v, e = .returned v) ∧ Below W.heap.size W W' := by
  have hs := fun o => itemSorted_none r a (W.alloc o) (new_cell hr o) ((Below.heap_alloc _ _ _ (lt_of_heap ha)).trans ha)
  have h1' := fun o => new_cell h1 o
  clear ha hr
  go_enter Tryz.func110, Tryz.ntmps110
  go_wp2_with fail
  refine (hs _).mono ?_
  rintro e w1 ⟨rfl, hb⟩
  have HB := Lib.hid (below_new hb)
  clear hb hs
  go_wp2_with fail
  go_loopw [5, 6, 7, 8, 12] (fun _x5 _x6 _x7 _x8 i wr => i = .int .i64 0 ∧ wr = w1) (fun _ _ _ _ _ _ => 0)
  case atStart => exact ⟨rfl, rfl⟩
  case round =>
    obtain ⟨rfl, rfl⟩ := hrel
    go_wp2_with fail
    go_end0
    exact ⟨⟨_, rfl⟩, HB.out⟩

end Go.Proofs.YtbpcfjoebfbjmaaGreatDoor

/-
  The walks of slices.SortFunc of no elements; of a directory's walk. Condition: there is nothing to be sorted.
-/
namespace Go.Proofs.YtbpcfjoebfbjmaaGreatDoor
open Go.RowKit Go.Shelf Go.Maps
attribute [local go_sem] Oper.semAt_some

set_option maxRecDepth 100000 in
set_option maxHeartbeats 2000000 in
theorem len0_any (w : World) : Calls Tryz.prog 113 #[.int .u64 0] w fun e w' => (∃ n, e = .returned (.int .i64 n)) ∧ w' = w := by
  have h : Calls Tryz.prog 90 #[.int .u64 0] w fun e w' => (∃ n, e = .returned (.int .i64 n)) ∧ w' = w := by
    go_enter Tryz.func90, Tryz.ntmps90
    go_wp2_with fail
    go_ret
    exact ⟨⟨_, rfl⟩, rfl⟩
  go_enter Tryz.func113, Tryz.ntmps113
  go_wp2_with fail
  refine h.mono ?_
  rintro e w1 ⟨⟨n, rfl⟩, rfl⟩
  go_wp2_with fail
  go_ret
  exact ⟨⟨_, rfl⟩, rfl⟩

set_option maxRecDepth 100000 in
set_option maxHeartbeats 2000000 in
theorem sortNone_any (f : Value) (w : World) : Calls Tryz.prog 72 #[.slice none 0 0, f] w fun e w' => (∃ v, e = .returned v) ∧ w' = w := by
  have hi : ∀ w, Calls Tryz.prog 159 #[.slice none 0 0, .int .i64 0, .int .i64 0, f] w fun e w' => (∃ v, e = .returned v) ∧ w' = w := by
    intro w
    go_enter Tryz.func159, Tryz.ntmps159
    go_wp2_with fail
    go_loopw [8, 9] (fun x8 _x9 wr => x8 = .int .i64 1 ∧ wr = w) (fun _ _ _ => 0)
    case atStart => exact ⟨rfl, rfl⟩
    case round =>
      obtain ⟨rfl, rfl⟩ := hrel
      go_wp2_with fail
      go_end0
      exact ⟨⟨_, rfl⟩, rfl⟩
  have hp : ∀ (n : Int) w, Calls Tryz.prog 112 #[.slice none 0 0, .int .i64 0, .int .i64 0, .int .i64 n, f] w fun e w' => (∃ v, e = .returned v) ∧ w' = w := by
    intro n w
    have hi' := hi
    go_enter Tryz.func112, Tryz.ntmps112
    go_wp2_with fail
    go_loopw [1, 2, 3, 10, 11, 12, 13, 14, 15, 16, 17, 18, 19, 20] (fun x1 x2 x3 x10 x11 _x12 _x13 _x14 _x15 _x16 _x17 _x18 _x19 _x20 wr => x1 = .int .i64 0 ∧ x2 = .int .i64 0 ∧ x3 = .int .i64 n ∧ x10 = .bool true ∧ x11 = .bool true ∧ wr = w) (fun _ _ _ _ _ _ _ _ _ _ _ _ _ _ _ => 0)
    case atStart => exact ⟨rfl, rfl, rfl, rfl, rfl, rfl⟩
    case round =>
      obtain ⟨rfl, rfl, rfl, rfl, rfl, rfl⟩ := hrel
      go_wp2_with fail
      refine (hi' _).mono ?_
      rintro e w1 ⟨⟨u, rfl⟩, rfl⟩
      go_wp2_with fail
      (try simp only [Exit.inBlock, Exit.then])
      exact bodyPost_ret (results_none rfl _ _ _) rfl ⟨⟨_, rfl⟩, rfl⟩
  go_enter Tryz.func72, Tryz.ntmps72
  go_wp2_with fail
  refine (len0_any _).mono ?_
  rintro e w1 ⟨⟨n, rfl⟩, rfl⟩
  go_wp2_with fail
  refine (hp _ _).mono ?_
  rintro e w2 ⟨⟨u, rfl⟩, rfl⟩
  go_wp2_with fail
  exact bodyPost_end (results_none rfl _ _ _) rfl ⟨⟨_, rfl⟩, rfl⟩

end Go.Proofs.YtbpcfjoebfbjmaaGreatDoor

/-
  The walk of tree.Dump at a tree of the root alone. Condition: the tree has the root alone.
-/
namespace Go.Proofs.YtbpcfjoebfbjmaaGreatDoor
open Go.RowKit Go.Shelf Go.Maps
attribute [local go_sem] Oper.semAt_some

theorem walk_any (r : Nat) (w : World) : Calls Tryz.prog 71 #[.pointer (some ⟨r, 0, none⟩), .string ⟨#[]⟩] w fun e w' => e = .returned (.func (.func 110) #[] #[.pointer (some ⟨w.heap.size, 0, none⟩), .pointer (some ⟨w.heap.size + 1, 0, none⟩)]) ∧ w' = (w.alloc (.cells #[.pointer (some ⟨r, 0, none⟩)] 163)).alloc (.cells #[.string ⟨#[]⟩] 9) := by
  have hmf : ∀ (fn : Fn) (first cap : Array Value) (w : World), (Instr.makeFunc fn first cap).run Tryz.prog w = .ok (.func fn first cap) w := fun _ _ _ _ => rfl
  go_enter Tryz.func71, Tryz.ntmps71
  go_wp2_with fail
  go_ret
  exact ⟨rfl, rfl⟩

theorem walk1_stops (k n₀ B1 B2 r a : Nat) (w : World) (h1 : w.cell? ⟨B1, 0, none⟩ = some (.pointer (some ⟨r, 0, none⟩))) (hr : w.cell? ⟨r, 5, none⟩ = some (.map (some a))) (ha : w.heap[a]? = some (.map #[] 0)) :
    SeqStopsK Fence.wide k Tryz.prog 110 #[.pointer (some ⟨B1, 0, none⟩), .pointer (some ⟨B2, 0, none⟩)] (fun v : ByteArray × Nat => #[Value.string v.1, Value.pointer (some ⟨v.2, 0, none⟩)]) (Below n₀) (fun xs => xs = []) (fun _ => False) 0 w := by
  intro l J Jx W hW hJ _ _ h0
  refine callsIn_wide.2 ((walk1_calls l B1 B2 r a W ((hW.cell (p := ⟨B1, 0, none⟩) (World.block_lt_of_cell? _ _ h1)).trans h1) ((hW.cell (p := ⟨r, 5, none⟩) (World.block_lt_of_cell? _ _ hr)).trans hr) ((hW.block a (lt_of_heap ha)).trans ha)).mono ?_)
  rintro e W' ⟨he, hb⟩
  exact ⟨he, .inl ⟨[], rfl, hJ _ _ _ none h0 ⟨hb.os, hb.tape, hb.output, hb.size, fun k hk _ => hb.block k hk⟩ (fun r e => by cases e)⟩⟩

set_option maxRecDepth 100000 in
set_option maxHeartbeats 2000000 in
theorem dump_none (t r a b : Nat) (w : World) (h : TreeAt w t r a b) :
    Calls Tryz.prog 44 #[.pointer (some ⟨t, 0, none⟩)] w fun e w' => e = .returned (.slice none 0 0) ∧ Below w.heap.size w w' := by
  have c0 := new_cell (h.1.cell 0 (v := .pointer (some ⟨r, 0, none⟩)) rfl) (.cells #[.slice none 0 0] 160)
  have hr := h.2.1.cell 5 (v := .map (some a)) rfl
  have ha := h.2.2.1
  clear h
  refine callsIn_wide.1 (callsIn_of_wp_marks (n := 2) Tryz.func44 rfl trivial ?_ rfl)
  simp only [Tryz.ntmps44, List.size_toArray, List.length_cons, List.length_nil, Nat.reduceAdd, Nat.reduceSub, Array.replicate_succ, Array.replicate_zero, List.push_toArray, List.append_toArray, List.nil_append, List.cons_append]
  gi_wp2_with (refine ⟨trivial, ?_⟩; gi_at_call 71; refine (callsIn_wide.2 (walk_any r _)).mono ?_; rintro e w' ⟨rfl, rfl⟩)
  have hx0 := one_new w (.slice none 0 0) 160
  have hx1 := one_new (w.alloc (.cells #[.slice none 0 0] 160)) (.pointer (some ⟨r, 0, none⟩)) 163
  simp only [World.size_alloc] at hx1
  have a0 := new_cell (new_cell hx0.1 (.cells #[.pointer (some ⟨r, 0, none⟩)] 163)) (.cells #[.string ⟨#[]⟩] 9)
  have a1 := new_cell hx1.1 (.cells #[.string ⟨#[]⟩] 9)
  have hB0 : Below w.heap.size w (((w.alloc (.cells #[.slice none 0 0] 160)).alloc (.cells #[.pointer (some ⟨r, 0, none⟩)] 163)).alloc (.cells #[.string ⟨#[]⟩] 9)) := (((Below.refl _ w).alloc (Nat.le_refl _) _).alloc (by simp) _).alloc (by simp; omega) _
  have ar := (hB0.cell (p := ⟨r, 5, none⟩) (World.block_lt_of_cell? _ _ hr)).trans hr
  have aa := (hB0.block a (lt_of_heap ha)).trans ha
  refine wpIn_rangeFunc_ownF rfl (by decide) (gf := 110) (lb := #[.pointer (some ⟨w.heap.size + 1, 0, none⟩), .pointer (some ⟨w.heap.size + 1 + 1, 0, none⟩)]) rfl trivial (enters_of Tryz.func110 (by kernel_rfl) rfl)
    (walk1_stops 1 w.heap.size (w.heap.size + 1) (w.heap.size + 1 + 1) r a _ a1 ar aa) belowK_t (belowK_b (by simp; omega)) (Below.refl _ _) (fun _ => rfl)
    (fun pre W => (W.cell? ⟨w.heap.size, 0, none⟩ = some (.slice none 0 0)) ∧ Below w.heap.size w W)
    (fun _ _ _ => False)
    (OwnFrom.and (Own.from (fun s A B row hs hg hr => cell_kept hs hg hr) _) (ownFrom_below (Nat.le_refl _) (by simp; omega)))
    (fun _ _ _ _ _ hs _ _ => hs)
    ⟨a0, hB0⟩
    (fun v => { tmps := #[.pointer (some ⟨t, 0, none⟩), undef, .slice none 0 0, .pointer (some ⟨w.heap.size, 0, none⟩), .string v.1, .pointer (some ⟨v.2, 0, none⟩), undef, undef, undef, undef, undef, undef, .pointer (some ⟨t, 0, none⟩), .pointer (some ⟨t, 0, none⟩), .pointer (some ⟨t, 0, none⟩), .pointer (some ⟨r, 0, none⟩), .func (.func 110) #[] #[.pointer (some ⟨w.heap.size + 1, 0, none⟩), .pointer (some ⟨w.heap.size + 1 + 1, 0, none⟩)], .string v.1, .pointer (some ⟨v.2, 0, none⟩), undef, undef, undef, undef, undef, undef, undef, undef, undef, undef, undef, undef, undef, undef, undef, undef, undef, undef, undef, undef, undef, undef, undef, undef, undef, undef, undef, undef, undef, undef, undef, undef, undef, undef, undef, undef, undef, undef, undef, undef, undef, undef, undef, undef, undef, undef, undef, undef, undef, undef, undef, undef, undef, undef, undef, undef, undef, undef, undef, undef, undef], defers := [] }) ?assign ?body ?done ?stop
  case assign =>
    intro l v W K hK
    gi_wp2
    exact hK
  case body =>
    intro l pre v W _ hl
    exact absurd hl (Nat.not_lt_zero _)
  case done =>
    rintro D ys W hD rfl ⟨q0, hB⟩ hK
    have q1 := new_cell q0 (.map #[] 0)
    have hmk : ∀ W, (Instr.makeMap 173 none).run Tryz.prog W = .ok (.map (some W.heap.size)) (W.alloc (.map #[] 0)) := fun _ => rfl
    gi_wp2_with (refine ⟨trivial, ?_⟩; gi_at_call 72; refine (callsIn_wide.2 (sortNone_any _ _)).mono ?_; rintro e w' ⟨⟨u, rfl⟩, rfl⟩)
    gi_loopw [7, 8, 9, 10, 11, 30] (fun x7 _x8 _x9 _x10 _x11 i wr => x7 = .slice none 0 0 ∧ i = .int .i64 0 ∧ wr = w'.alloc (.map #[] 0)) (fun _ _ _ _ _ _ _ => 0)
    case atStart => exact ⟨rfl, rfl, rfl⟩
    case round =>
      obtain ⟨rfl, rfl, rfl⟩ := hrel
      gi_wp2
      have hDl := lt_of_heap hK
      have hK2 : (w'.alloc (.map #[] 0)).heap[D]? = some (.deferred (some [])) := (Below.heap_alloc _ _ _ hDl).trans hK
      refine ⟨by simp, .inl ⟨_, _, rfl, run_takeDeferred hK2, ?_⟩⟩
      refine ⟨.slice none 0 0, ?_, rfl, (hB.alloc hB.size _).trans (belowK_b (w := w) (Nat.le_refl _) _ D _ _ (by simp at hD; omega) hK2 rfl rfl)⟩
      simp [results, Tryz.results44, go_sem]
  case stop =>
    rintro D c pre W _ h _ _
    exact h.elim

end Go.Proofs.YtbpcfjoebfbjmaaGreatDoor
