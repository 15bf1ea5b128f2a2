/-
  Texts of this seat put together: L19, L20, L21, L22.
-/
import Derived.Test.YtfgmmaahbngonaaGreatDoorQ27

/-
  The walks of the law's test and expr. Conditions: operands that the spec tells of; lengths; what the library's variables hold.
-/
namespace Go.Proofs.YtfgmmaahbngonaaGreatDoor
open Go.RowKit Go.Shelf Go.Maps


/-- append of one text that lies anew and of others. -/
theorem wp_append_lit {w : World} {B g : Nat} {t0 : Bts} {rest : List Bts} {pa : Option Addr} {ca : Nat} {ops : Array Oper} {rs : List Oper} {o : Oper} {a : Act} {Q : Exit → Act → World → Prop} (hgd : o.guard = none) (s x : Operand)
    (ho : o.op = .call { callee := .builtin .append, args := #[s, x], argTypes := #[25, 25] }) (hs : a.eval s = .slice (some ⟨g, 0, none⟩) 1 1) (hx : a.eval x = .slice pa rest.length ca)
    (hB : B ≤ g) (hBw : B ≤ w.heap.size) (hrow : w.ownsRow B 9 1 (.slice (some ⟨g, 0, none⟩) 1 1) 1 [strV t0]) (hv : Ss w pa rest) (hpos : 0 < rest.length) (hlen : rest.length ≤ 1000000)
    (h : ∀ g' c' w', Ss w' (some ⟨g', 0, none⟩) (t0 :: rest) → Below B w w' → wpList Tryz.prog ops Q rs (a.put o.dst (.slice (some ⟨g', 0, none⟩) (t0 :: rest).length c')) w') : wpList Tryz.prog ops Q (o :: rs) a w := by
  obtain ⟨i0, hi0, hz0, hz1, hz2⟩ := info_parts info_str
  obtain ⟨b, q, rfl, hc⟩ := hv hpos
  refine wpList_append_own_at _ hgd s x 25 ho B 9 i0 (.string ⟨#[]⟩) 1 16 Tryz.underlying25 hi0 hz0 hz1 hz2 rfl (by decide) _ 1 [strV t0] hs hrow ⟨b, q, none⟩ rest.length ca (rest.map strV) hx (by simp) ?_
    (by intro u hu; obtain ⟨y, -, rfl⟩ := List.mem_map.1 hu; rfl) (by unfold maxLen; omega) (by omega) hBw ?_
  · intro j u hj
    have hjl : j < rest.length := by
      have := (List.getElem?_eq_some_iff.1 hj).1
      simpa using this
    rw [show ((⟨b, q, none⟩ : Addr).add j) = ⟨b, q + j, none⟩ by simp only [Addr.add]; split <;> simp_all]
    rw [hc j hjl, ← hj]
    simp [List.getD_eq_getElem?_getD, hjl]
  · intro v' w' hown hg _ _
    have hl : 1 + rest.length = (t0 :: rest).length := by simp; omega
    rw [show [strV t0] ++ rest.map strV = (t0 :: rest).map strV from rfl, hl] at hown
    have hb : Below B w w' := by
      have hk : Kept (fun k => (Value.slice (some ⟨g, 0, none⟩) 1 1).ownBlock = some k) w w' := kept_grown (Kept.refl _ w) hg
      refine ⟨hk.os, hk.tape, hk.output, hk.size, fun k hk' => hk.block k (by omega) (by simp [Value.ownBlock]; omega)⟩
    rcases id hown.2 with ⟨-, hn⟩ | ⟨g', c', cur, rfl, -, -, -, -, -, -⟩
    · simp at hn
    · refine h g' c' w' (fun _ => ⟨g', 0, rfl, fun i hi => ?_⟩) hb
      rw [Nat.zero_add, hown.cellAt i (by simpa using hi), List.getElem?_map, List.getElem?_eq_getElem hi]
      simp [List.getD_eq_getElem?_getD, List.getElem?_eq_getElem hi]

theorem resStatus (a b c d e f g : Value) (w : World) : (Instr.field 31 (.agg #[a, b, c, d, e, f, g]) 2).run Tryz.prog w = .ok c w := by kernel_rfl
theorem resOut (a b c d e f g : Value) (w : World) : (Instr.field 31 (.agg #[a, b, c, d, e, f, g]) 0).run Tryz.prog w = .ok a w := by kernel_rfl

/-- What test's job ends with. -/
def tstat : Except Lg.Bad Bool → Int
  | .ok y => if y then 0 else 1
  | .error _ => 2
/-- What expr tells. -/
def xtext : Except Lg.Bad Bts → Bts
  | .ok s => s ++ [10]
  | .error _ => []
/-- What went wrong can be said. -/
def Tame {α : Type} (x : Except Lg.Bad α) : Prop := ∀ bad, x = .error bad → bad.1.length ≤ 100000000 ∧ bad.2 < 27
theorem TestQ.len {a0 : Bts} {x : Except Lg.Bad Bool} (ha : a0.length ≤ 1000) (hb : Tame x) (st : Int) (o e : Bts) (h : TestQ a0 x st o e) : o.length ≤ 4294967296 ∧ e.length ≤ 4294967296 := by
  unfold TestQ at h
  cases x with
  | ok y => obtain ⟨-, rfl, rfl⟩ := h; simp
  | error bad =>
    obtain ⟨-, rfl, rfl⟩ := h
    obtain ⟨b1, -⟩ := hb bad rfl
    have := diag_len a0 bad.1 bad.2
    simp; omega
theorem TestQ.st {a0 : Bts} {x : Except Lg.Bad Bool} {st : Int} {o e : Bts} (h : TestQ a0 x st o e) : st = tstat x := by
  unfold TestQ at h
  cases x with
  | ok y => exact h.1
  | error bad => exact h.1
theorem ExprQ.len {a0 : Bts} {x : Except Lg.Bad Bts} (ha : a0.length ≤ 1000) (hb : Tame x) (hok : ∀ s, x = .ok s → s.length ≤ 4000000000) (st : Int) (o e : Bts) (h : ExprQ a0 x st o e) : o.length ≤ 4294967296 ∧ e.length ≤ 4294967296 := by
  unfold ExprQ at h
  cases x with
  | ok y => obtain ⟨-, rfl, rfl⟩ := h; have := hok y rfl; simp; omega
  | error bad =>
    obtain ⟨-, rfl, rfl⟩ := h
    obtain ⟨b1, -⟩ := hb bad rfl
    have := diag_len a0 bad.1 bad.2
    simp; omega
theorem ExprQ.out {a0 : Bts} {x : Except Lg.Bad Bts} {st : Int} {o e : Bts} (h : ExprQ a0 x st o e) : o = xtext x := by
  unfold ExprQ at h
  cases x with
  | ok y => exact h.2.1
  | error bad => exact h.2.1

set_option maxRecDepth 100000 in
set_option maxHeartbeats 4000000 in
theorem lawTest_any (rest : List Bts) (hrest : 0 < rest.length) (hll : rest.length ≤ 1000000) (pa : Option Addr) (ca : Nat) (x : Except Lg.Bad Bool) (hx : Lg.holds 8 rest = some x) (hlen : ∀ s ∈ rest, s.length ≤ 100000000) (hbad : Tame x) (w : World) (hg : GloL w) (ha : Ss w pa rest) :
    Calls Tryz.prog 8 #[.slice pa rest.length ca] w fun e w' => e = .returned (.int .i64 (tstat x)) ∧ Below w.heap.size w w' := by
  obtain ⟨w1, hw1⟩ : ∃ w1, w.alloc (.cells #[.string ⟨#[116, 101, 115, 116]⟩] 9) = w1 := ⟨_, rfl⟩
  have hb1 : Below w.heap.size w w1 := by rw [← hw1]; exact (Below.refl _ _).alloc (Nat.le_refl _) _
  have hrow : w1.ownsRow w.heap.size 9 1 (.slice (some ⟨w.heap.size, 0, none⟩) 1 1) 1 [strV [116, 101, 115, 116]] := by
    rw [← hw1]
    exact World.ownsRow_lit w #[.string ⟨#[116, 101, 115, 116]⟩] 1 (Nat.le_refl _) (by decide) rfl
  have HROW := Lib.hid hrow
  have HB := Lib.hid hb1
  have HA := Lib.hid (ha.below hb1)
  have HG := Lib.hid hg
  have HX := Lib.hid hx
  have HLEN := Lib.hid hlen
  have HBAD := Lib.hid hbad
  have HP := Lib.hid hrest
  clear hrow hb1 ha hg hx hlen hbad hrest
  go_enter Tryz.func8, Tryz.ntmps8
  go_wp2_with (at_builtin; refine wp_append_lit rfl _ _ rfl rfl rfl (Nat.le_refl _) HB.out.size HROW.out HA.out HP.out hll ?_; intro g2 c2 w2 hss2 hb2)
  have hb12 : Below w.heap.size w w2 := HB.out.trans hb2
  have hrun := lawRun_any ([116, 101, 115, 116] :: rest) (by simp) (by simp; omega) (some ⟨g2, 0, none⟩) c2 (TestQ [116, 101, 115, 116] x) w2 (HG.out.below hb12).glo
    (fun w3 hb3 => starts_test w3 ((HG.out.below hb12).below hb3) rest (List.length_pos_iff.1 HP.out) x HX.out HLEN.out HBAD.out) (TestQ.len (by decide) HBAD.out) hss2
  have HB12 := Lib.hid hb12
  clear hss2 hb2 hb12
  go_wp2_with fail
  refine hrun.mono ?_
  rintro e w3 ⟨ov, ev, st, steps, peak, out, err, rfl, so, se, hq, hb3⟩
  obtain ⟨p1, c1, rfl, -, -⟩ := so.bs
  obtain ⟨p2, c2, rfl, -, -⟩ := se.bs
  clear so se
  obtain rfl := hq.st
  have HB3 := Lib.hid (HB12.out.trans (hb3.mono HB12.out.size))
  have hfield := resStatus
  clear hrun hq hb3
  go_wp2_with fail
  go_ret
  exact ⟨rfl, HB3.out⟩

set_option maxRecDepth 100000 in
set_option maxHeartbeats 4000000 in
theorem lawExpr_any (rest : List Bts) (hrest : 0 < rest.length) (hll : rest.length ≤ 1000000) (pa : Option Addr) (ca : Nat) (x : Except Lg.Bad Bts) (hx : Lg.Tells foundF rest x) (hlen : ∀ s ∈ rest, s.length ≤ 100000000) (hbad : Tame x) (hok : ∀ s, x = .ok s → s.length ≤ 4000000000) (w : World) (hg : GloL w) (ha : Ss w pa rest) :
    Calls Tryz.prog 9 #[.slice pa rest.length ca] w fun e w' => e = .returned (.string ⟨(xtext x).toArray⟩) ∧ Below w.heap.size w w' := by
  obtain ⟨f, hx⟩ := hx
  obtain ⟨w1, hw1⟩ : ∃ w1, w.alloc (.cells #[.string ⟨#[101, 120, 112, 114]⟩] 9) = w1 := ⟨_, rfl⟩
  have hb1 : Below w.heap.size w w1 := by rw [← hw1]; exact (Below.refl _ _).alloc (Nat.le_refl _) _
  have hrow : w1.ownsRow w.heap.size 9 1 (.slice (some ⟨w.heap.size, 0, none⟩) 1 1) 1 [strV [101, 120, 112, 114]] := by
    rw [← hw1]
    exact World.ownsRow_lit w #[.string ⟨#[101, 120, 112, 114]⟩] 1 (Nat.le_refl _) (by decide) rfl
  have HROW := Lib.hid hrow
  have HB := Lib.hid hb1
  have HA := Lib.hid (ha.below hb1)
  have HG := Lib.hid hg
  have HX := Lib.hid hx
  have HLEN := Lib.hid hlen
  have HBAD := Lib.hid hbad
  have HOK := Lib.hid hok
  have HP := Lib.hid hrest
  clear hrow hb1 ha hg hx hlen hbad hrest hok
  go_enter Tryz.func9, Tryz.ntmps9
  go_wp2_with (at_builtin; refine wp_append_lit rfl _ _ rfl rfl rfl (Nat.le_refl _) HB.out.size HROW.out HA.out HP.out hll ?_; intro g2 c2 w2 hss2 hb2)
  have hb12 : Below w.heap.size w w2 := HB.out.trans hb2
  have hrun := lawRun_any ([101, 120, 112, 114] :: rest) (by simp) (by simp; omega) (some ⟨g2, 0, none⟩) c2 (ExprQ [101, 120, 112, 114] x) w2 (HG.out.below hb12).glo
    (fun w3 hb3 => starts_expr w3 ((HG.out.below hb12).below hb3) rest (List.length_pos_iff.1 HP.out) f x HX.out HLEN.out HBAD.out HOK.out) (ExprQ.len (by decide) HBAD.out HOK.out) hss2
  have HB12 := Lib.hid hb12
  clear hss2 hb2 hb12
  go_wp2_with fail
  refine hrun.mono ?_
  rintro e w3 ⟨ov, ev, st, steps, peak, out, err, rfl, so, se, hq, hb3⟩
  obtain rfl := hq.out
  have HB3 := Lib.hid (HB12.out.trans (hb3.mono HB12.out.size))
  obtain ⟨po, co, rfl, hbs, -⟩ := so.bs
  obtain ⟨p2, c2, rfl, -, -⟩ := se.bs
  clear se
  have hconv := run_str hbs co
  have hfield := resOut
  clear hrun hq hb3 so hbs
  go_wp2_with fail
  go_ret
  exact ⟨rfl, HB3.out⟩

end Go.Proofs.YtfgmmaahbngonaaGreatDoor

/-
  Jobs whose operands are laid as they are called; the walk of the law's awake: the examples. Condition: what the library's variables hold.
-/
namespace Go.Proofs.YtfgmmaahbngonaaGreatDoor
open Go.RowKit Go.Shelf Go.Maps

theorem ss_lit (W : World) (l : List Bts) (cs : Array Value) (h : cs = (l.map strV).toArray) : Ss (W.alloc (.cells cs 9)) (some ⟨W.heap.size, 0, none⟩) l := fun _ => ⟨_, 0, rfl, fun i hi => by
  rw [Nat.zero_add]
  refine (Blk.new W cs 9).cell i ?_
  rw [h, List.getElem?_toArray, List.getElem?_map, List.getElem?_eq_getElem hi, List.getD_eq_getElem?_getD, List.getElem?_eq_getElem hi]
  rfl⟩
theorem alloc_below (W : World) (o : Obj) : Below W.heap.size W (W.alloc o) := (Below.refl _ _).alloc (Nat.le_refl _) _

theorem run_lit (l : List Bts) (cs : Array Value) (h : cs = (l.map strV).toArray) (hne : l ≠ []) (hll : l.length < 1073741824) (Q : Int → Bts → Bts → Prop) (w : World) (hg : GloL w) (hst : ∀ w1, GloL w1 → Starts w1 15 l 3 9 9 [] Q) (hQ : ∀ st o e, Q st o e → o.length ≤ 4294967296 ∧ e.length ≤ 4294967296) :
    Calls Tryz.prog 10 #[.slice (some ⟨w.heap.size, 0, none⟩) l.length l.length] (w.alloc (.cells cs 9)) fun e w' => ∃ p1 c1 p2 c2 st steps peak out err, e = .returned (.agg #[.slice p1 (List.length out) c1, .slice p2 (List.length err) c2, .int .i64 st, .slice none 0 0, .int .i64 steps, .int .i64 peak, .int .i64 0]) ∧ Bs w' p1 out ∧ Bs w' p2 err ∧ Q st out err ∧ Below w.heap.size w w' := by
  have hb := alloc_below w (.cells cs 9)
  refine (lawRun_any l hne hll _ _ Q _ (hg.below hb).glo (fun w1 h1 => hst w1 ((hg.below hb).below h1)) hQ (ss_lit w l cs h)).mono ?_
  rintro e w' ⟨ov, ev, st, steps, peak, out, err, rfl, so, se, hq, hb'⟩
  obtain ⟨p1, c1, rfl, h1, -⟩ := so.bs
  obtain ⟨p2, c2, rfl, h2, -⟩ := se.bs
  exact ⟨p1, c1, p2, c2, st, steps, peak, out, err, rfl, h1, h2, hq, hb.trans (hb'.mono hb.size)⟩
theorem test_lit (l : List Bts) (cs : Array Value) (h : cs = (l.map strV).toArray) (hpos : 0 < l.length) (hll : l.length ≤ 1000000) (x : Except Lg.Bad Bool) (hx : Lg.holds 8 l = some x) (hlen : ∀ s ∈ l, s.length ≤ 100000000) (hbad : Tame x) (w : World) (hg : GloL w) :
    Calls Tryz.prog 8 #[.slice (some ⟨w.heap.size, 0, none⟩) l.length l.length] (w.alloc (.cells cs 9)) fun e w' => e = .returned (.int .i64 (tstat x)) ∧ Below w.heap.size w w' := by
  have hb := alloc_below w (.cells cs 9)
  exact (lawTest_any l hpos hll _ _ x hx hlen hbad _ (hg.below hb) (ss_lit w l cs h)).mono fun e w' h => ⟨h.1, hb.trans (h.2.mono hb.size)⟩
theorem expr_lit (l : List Bts) (cs : Array Value) (h : cs = (l.map strV).toArray) (hpos : 0 < l.length) (hll : l.length ≤ 1000000) (x : Except Lg.Bad Bts) (hx : Lg.Tells foundF l x) (hlen : ∀ s ∈ l, s.length ≤ 100000000) (hbad : Tame x) (hok : ∀ s, x = .ok s → s.length ≤ 4000000000) (w : World) (hg : GloL w) :
    Calls Tryz.prog 9 #[.slice (some ⟨w.heap.size, 0, none⟩) l.length l.length] (w.alloc (.cells cs 9)) fun e w' => e = .returned (.string ⟨(xtext x).toArray⟩) ∧ Below w.heap.size w w' := by
  have hb := alloc_below w (.cells cs 9)
  exact (lawExpr_any l hpos hll _ _ x hx hlen hbad hok _ (hg.below hb) (ss_lit w l cs h)).mono fun e w' h => ⟨h.1, hb.trans (h.2.mono hb.size)⟩
theorem tame_ok {α : Type} (y : α) : Tame (.ok y : Except Lg.Bad α) := fun bad e => by cases e
theorem free_lit {s : Bts} (h : (decide (Lg.rank s = 0) && decide (s ≠ [40]) && decide (s ≠ [41])) = true) : Lg.Free s := by
  simp only [Bool.and_eq_true, decide_eq_true_eq] at h
  exact ⟨h.1.1, h.1.2, h.2⟩

/-! The examples. -/
instance decEx {α β : Type} [DecidableEq α] [DecidableEq β] : DecidableEq (Except α β)
  | .ok a, .ok b => if h : a = b then isTrue (by rw [h]) else isFalse fun e => h (by injection e)
  | .error a, .error b => if h : a = b then isTrue (by rw [h]) else isFalse fun e => h (by injection e)
  | .ok _, .error _ => isFalse fun e => by cases e
  | .error _, .ok _ => isFalse fun e => by cases e
theorem ex_div : Lg.Tells foundF [[49], [47], [48]] (.error ([], 25)) :=
  Lg.Tells.two (free_lit (by decide)) (free_lit (by decide)) (by decide) (by decide) (by decide) (by decide) (by decide +kernel)
theorem ex_or : Lg.Tells foundF [[48], [124], []] (.ok [48]) :=
  Lg.Tells.two (free_lit (by decide)) (free_lit (by decide)) (by decide) (by decide) (by decide) (by decide) (by decide +kernel)
theorem ex_found : foundF [97, 98, 99] [97, 98, 42] = some (.ok [50]) := by decide +kernel
theorem ex_col : Lg.Tells foundF [[97, 98, 99], [58], [97, 98, 42]] (.ok [50]) :=
  Lg.Tells.two (free_lit (by decide)) (free_lit (by decide)) (by decide) (by decide) (by decide) (by decide) (by
    unfold Lg.op
    rw [if_neg (by decide), if_neg (by decide), if_pos rfl, ex_found])
theorem ex_sum : Lg.Tells foundF [[49], [43], [50], [42], [51]] (.ok [55]) := by
  refine Lg.Tells.of (Lg.Reads.sums (free_lit (by decide)) (free_lit (by decide)) (free_lit (by decide))) ?_
  rw [Lg.reckon_bin (Lg.reckon_val _ _) (u := [49]) (v := [54]) (by rw [Lg.reckon_two _ _ _ _ (by decide) (by decide)]; decide +kernel) (by decide) (by decide)]
  decide +kernel
theorem ex_lt : Lg.holds 8 [[50], [45, 108, 116], [49, 48]] = some (.ok true) := by decide +kernel
theorem ex_z : Lg.holds 8 [[45, 122], []] = some (.ok true) := by decide +kernel
theorem ex_not : Lg.holds 8 [[33], [97]] = some (.ok false) := by decide +kernel

set_option maxRecDepth 100000 in
set_option maxHeartbeats 8000000 in
theorem awake_any (w : World) (hg : GloL w) : Calls Tryz.prog 6 #[] w fun e w' => e = .returned (.bool true) ∧ Below w.heap.size w w' := by
  have hrun0 : Calls Tryz.prog 10 #[.slice (some ⟨w.heap.size, 0, none⟩) 4 4] (w.alloc (.cells #[.string ⟨#[101, 120, 112, 114]⟩, .string ⟨#[49]⟩, .string ⟨#[47]⟩, .string ⟨#[48]⟩] 9)) _ := run_lit [[101, 120, 112, 114], [49], [47], [48]] _ rfl (by simp) (by decide) (ExprQ [101, 120, 112, 114] (.error ([], 25))) w hg (fun w1 hg1 => by obtain ⟨f, hf⟩ := ex_div; exact starts_expr w1 hg1 _ (by simp) f _ hf (by decide) (fun bad e => by injection e with e; subst e; decide) (fun s e => by cases e)) (ExprQ.len (by decide) (fun bad e => by injection e with e; subst e; decide) (fun s e => by cases e))
  have HG := Lib.hid hg
  clear hg
  go_enter Tryz.func6, Tryz.ntmps6
  go_wp2_with fail
  refine hrun0.mono ?_
  rintro e v0 ⟨p0, c0, q0, d0, st, sp0, pk0, out0, err0, rfl, so0, se0, hq, hb0⟩
  obtain ⟨hs, ho, he⟩ := hq
  replace hs : st = 2 := hs.trans (by decide +kernel)
  subst hs
  replace ho : out0 = [] := ho
  replace he : err0 = [101, 120, 112, 114, 58, 32, 110, 111, 116, 32, 97, 32, 110, 117, 109, 98, 101, 114, 10] := he.trans (by decide)
  subst ho
  subst he
  obtain ⟨w1, hw1⟩ : ∃ w', v0.alloc (.cells #[.slice p0 0 c0, .slice q0 19 d0, .int .i64 2, .slice none 0 0, .int .i64 sp0, .int .i64 pk0, .int .i64 0] 31) = w' := ⟨_, rfl⟩
  have hbn : Below w.heap.size w w1 := by rw [← hw1]; exact hb0.alloc hb0.size _
  have HN0 := Lib.hid hbn
  have HB1 : Hid (Below w.heap.size w w1) := Lib.hid (hbn)
  have HR0 : Hid (Blk w1 v0.heap.size #[.slice p0 0 c0, .slice q0 19 d0, .int .i64 2, .slice none 0 0, .int .i64 sp0, .int .i64 pk0, .int .i64 0] 31) := Lib.hid (by rw [← hw1]; exact Blk.new _ _ _)
  have HO0 : Hid (Bs w1 p0 [] ∧ Bs w1 q0 [101, 120, 112, 114, 58, 32, 110, 111, 116, 32, 97, 32, 110, 117, 109, 98, 101, 114, 10]) := Lib.hid ⟨by rw [← hw1]; exact so0.below (alloc_below _ _) (Nat.le_refl _), by rw [← hw1]; exact se0.below (alloc_below _ _) (Nat.le_refl _)⟩
  have HW1 := Lib.hid hw1
  clear hrun0 so0 se0 hb0 hbn hw1
  go_upto_region 2 with fail
  rw [HW1.out]
  have hrun1 : Calls Tryz.prog 10 #[.slice (some ⟨w1.heap.size, 0, none⟩) 4 4] (w1.alloc (.cells #[.string ⟨#[101, 120, 112, 114]⟩, .string ⟨#[48]⟩, .string ⟨#[124]⟩, .string ⟨#[]⟩] 9)) _ := run_lit [[101, 120, 112, 114], [48], [124], []] _ rfl (by simp) (by decide) (ExprQ [101, 120, 112, 114] (.ok [48])) w1 (HG.out.below HB1.out) (fun w1 hg1 => by obtain ⟨f, hf⟩ := ex_or; exact starts_expr w1 hg1 _ (by simp) f _ hf (by decide) (tame_ok _) (fun s e => by injection e with e; subst e; decide)) (ExprQ.len (by decide) (tame_ok _) (fun s e => by injection e with e; subst e; decide))
  go_wp2_with fail
  refine hrun1.mono ?_
  rintro e v1 ⟨p1, c1, q1, d1, st, sp1, pk1, out1, err1, rfl, so1, se1, hq, hb1⟩
  obtain ⟨hs, ho, he⟩ := hq
  replace hs : st = 1 := hs.trans (by decide +kernel)
  subst hs
  replace ho : out1 = [48, 10] := ho
  replace he : err1 = [] := he.trans (by decide)
  subst ho
  subst he
  obtain ⟨w2, hw2⟩ : ∃ w', v1.alloc (.cells #[.slice p1 2 c1, .slice q1 0 d1, .int .i64 1, .slice none 0 0, .int .i64 sp1, .int .i64 pk1, .int .i64 0] 31) = w' := ⟨_, rfl⟩
  have hbn : Below w1.heap.size w1 w2 := by rw [← hw2]; exact hb1.alloc hb1.size _
  have HN1 := Lib.hid hbn
  have HB2 : Hid (Below w.heap.size w w2) := Lib.hid (HB1.out.trans (hbn.mono HB1.out.size))
  have HR1 : Hid (Blk w2 v1.heap.size #[.slice p1 2 c1, .slice q1 0 d1, .int .i64 1, .slice none 0 0, .int .i64 sp1, .int .i64 pk1, .int .i64 0] 31) := Lib.hid (by rw [← hw2]; exact Blk.new _ _ _)
  have HO1 : Hid (Bs w2 p1 [48, 10] ∧ Bs w2 q1 []) := Lib.hid ⟨by rw [← hw2]; exact so1.below (alloc_below _ _) (Nat.le_refl _), by rw [← hw2]; exact se1.below (alloc_below _ _) (Nat.le_refl _)⟩
  have HW2 := Lib.hid hw2
  clear hrun1 so1 se1 hb1 hbn hw2
  go_upto_region 3 with fail
  rw [HW2.out]
  have hrun2 : Calls Tryz.prog 10 #[.slice (some ⟨w2.heap.size, 0, none⟩) 5 5] (w2.alloc (.cells #[.string ⟨#[91]⟩, .string ⟨#[50]⟩, .string ⟨#[45, 108, 116]⟩, .string ⟨#[49, 48]⟩, .string ⟨#[93]⟩] 9)) _ := run_lit [[91], [50], [45, 108, 116], [49, 48], [93]] _ rfl (by simp) (by decide) (TestQ [91] (.ok true)) w2 (HG.out.below HB2.out) (fun w1 hg1 => starts_bracket w1 hg1 [[50], [45, 108, 116], [49, 48]] _ ex_lt (by decide) (tame_ok _)) (TestQ.len (by decide) (tame_ok _))
  go_wp2_with fail
  refine hrun2.mono ?_
  rintro e v2 ⟨p2, c2, q2, d2, st, sp2, pk2, out2, err2, rfl, so2, se2, hq, hb2⟩
  obtain ⟨hs, ho, he⟩ := hq
  replace hs : st = 0 := hs.trans (by decide +kernel)
  subst hs
  replace ho : out2 = [] := ho
  replace he : err2 = [] := he.trans (by decide)
  subst ho
  subst he
  obtain ⟨w3, hw3⟩ : ∃ w', v2.alloc (.cells #[.slice p2 0 c2, .slice q2 0 d2, .int .i64 0, .slice none 0 0, .int .i64 sp2, .int .i64 pk2, .int .i64 0] 31) = w' := ⟨_, rfl⟩
  have hbn : Below w2.heap.size w2 w3 := by rw [← hw3]; exact hb2.alloc hb2.size _
  have HN2 := Lib.hid hbn
  have HB3 : Hid (Below w.heap.size w w3) := Lib.hid (HB2.out.trans (hbn.mono HB2.out.size))
  have HR2 : Hid (Blk w3 v2.heap.size #[.slice p2 0 c2, .slice q2 0 d2, .int .i64 0, .slice none 0 0, .int .i64 sp2, .int .i64 pk2, .int .i64 0] 31) := Lib.hid (by rw [← hw3]; exact Blk.new _ _ _)
  have HO2 : Hid (Bs w3 p2 [] ∧ Bs w3 q2 []) := Lib.hid ⟨by rw [← hw3]; exact so2.below (alloc_below _ _) (Nat.le_refl _), by rw [← hw3]; exact se2.below (alloc_below _ _) (Nat.le_refl _)⟩
  have HW3 := Lib.hid hw3
  clear hrun2 so2 se2 hb2 hbn hw3
  go_upto_region 4 with fail
  rw [HW3.out]
  have hcl0 : Calls Tryz.prog 8 #[.slice (some ⟨w3.heap.size, 0, none⟩) 2 2] (w3.alloc (.cells #[.string ⟨#[45, 122]⟩, .string ⟨#[]⟩] 9)) _ := test_lit [[45, 122], []] _ rfl (by decide) (by decide) (.ok true) ex_z (by decide) (tame_ok _) w3 (HG.out.below (HB3.out))
  go_wp2_with fail
  refine hcl0.mono ?_
  rintro e x0 ⟨rfl, hb⟩
  have HX0 : Hid (Below w3.heap.size w3 x0) := Lib.hid (hb)
  clear hcl0 hb
  have hcl1 : Calls Tryz.prog 8 #[.slice (some ⟨x0.heap.size, 0, none⟩) 2 2] (x0.alloc (.cells #[.string ⟨#[33]⟩, .string ⟨#[97]⟩] 9)) _ := test_lit [[33], [97]] _ rfl (by decide) (by decide) (.ok false) ex_not (by decide) (tame_ok _) x0 (HG.out.below (HB3.out.trans (HX0.out.mono HB3.out.size)))
  go_wp2_with fail
  refine hcl1.mono ?_
  rintro e x1 ⟨rfl, hb⟩
  have HX1 : Hid (Below w3.heap.size w3 x1) := Lib.hid (HX0.out.trans (hb.mono HX0.out.size))
  clear hcl1 hb
  have hcl2 : Calls Tryz.prog 9 #[.slice (some ⟨x1.heap.size, 0, none⟩) 5 5] (x1.alloc (.cells #[.string ⟨#[49]⟩, .string ⟨#[43]⟩, .string ⟨#[50]⟩, .string ⟨#[42]⟩, .string ⟨#[51]⟩] 9)) _ := expr_lit [[49], [43], [50], [42], [51]] _ rfl (by decide) (by decide) (.ok [55]) ex_sum (by decide) (tame_ok _) (fun s e => by injection e with e; subst e; decide) x1 (HG.out.below (HB3.out.trans (HX1.out.mono HB3.out.size)))
  have z3 := (HR2.out.keep HX1.out HR2.out.lt).cell 2 (v := .int .i64 0) rfl
  go_wp2_with fail
  refine hcl2.mono ?_
  rintro e x2 ⟨rfl, hb⟩
  have HX2 : Hid (Below w3.heap.size w3 x2) := Lib.hid (HX1.out.trans (hb.mono HX1.out.size))
  clear hcl2 hb
  have hcl3 : Calls Tryz.prog 9 #[.slice (some ⟨x2.heap.size, 0, none⟩) 3 3] (x2.alloc (.cells #[.string ⟨#[97, 98, 99]⟩, .string ⟨#[58]⟩, .string ⟨#[97, 98, 42]⟩] 9)) _ := expr_lit [[97, 98, 99], [58], [97, 98, 42]] _ rfl (by decide) (by decide) (.ok [50]) ex_col (by decide) (tame_ok _) (fun s e => by injection e with e; subst e; decide) x2 (HG.out.below (HB3.out.trans (HX2.out.mono HB3.out.size)))
  go_wp2_with fail
  refine hcl3.mono ?_
  rintro e x3 ⟨rfl, hb⟩
  have HX3 : Hid (Below w3.heap.size w3 x3) := Lib.hid (HX2.out.trans (hb.mono HX2.out.size))
  clear hcl3 hb
  have k1 := (HR0.out.keep HN1.out HR0.out.lt).keep HN2.out (HR0.out.keep HN1.out HR0.out.lt).lt
  have j1 := k1.keep HX3.out k1.lt
  have k2 := HR1.out.keep HN2.out HR1.out.lt
  have j2 := k2.keep HX3.out k2.lt
  have y11 := j1.cell 1 (v := .slice q0 19 d0) rfl
  have y12 := j1.cell 2 (v := .int .i64 2) rfl
  have y20 := j2.cell 0 (v := .slice p1 2 c1) rfl
  have y22 := j2.cell 2 (v := .int .i64 1) rfl
  have hv1 : (convert 28 9 (.slice q0 19 d0)).run Tryz.prog x3 = .ok (.string ⟨#[101, 120, 112, 114, 58, 32, 110, 111, 116, 32, 97, 32, 110, 117, 109, 98, 101, 114, 10]⟩) x3 := run_str (((HO0.out.2.below HN1.out (Nat.le_refl _)).below HN2.out (Nat.le_refl _)).below HX3.out (Nat.le_refl _)) d0
  have hv2 : (convert 28 9 (.slice p1 2 c1)).run Tryz.prog x3 = .ok (.string ⟨#[48, 10]⟩) x3 := run_str ((HO1.out.1.below HN2.out (Nat.le_refl _)).below HX3.out (Nat.le_refl _)) c1
  clear k1 j1 k2 j2
  go_wp2_with fail
  go_ret
  exact ⟨rfl, HB3.out.trans (HX3.out.mono HB3.out.size)⟩

end Go.Proofs.YtfgmmaahbngonaaGreatDoor

/-
  The walk of LogicSums. Condition: what the library's variables hold.
-/
namespace Go.Proofs.YtfgmmaahbngonaaGreatDoor
open Go.RowKit Go.Shelf Go.Maps

/-- A line: a text and a newline. -/
theorem line_eq (Z : Bts) : (⟨Z.toArray⟩ : ByteArray) ++ ⟨#[10]⟩ = ⟨(Z ++ [10]).toArray⟩ := by
  apply ByteArray.ext
  simp
theorem rest_bounds (a b : Int) (h1 : -2147483648 ≤ a) (h2 : a ≤ 2147483648) : (-2147483648 ≤ a.tdiv b ∧ a.tdiv b ≤ 2147483648) ∧ (-2147483648 ≤ a.tmod b ∧ a.tmod b ≤ 2147483648) := by
  have h3 := Int.natAbs_tdiv_le_natAbs a b
  have h4 : (a.tmod b).natAbs ≤ a.natAbs := by rw [Int.natAbs_tmod]; exact Nat.mod_le _ _
  omega
theorem itoa_le {n : Int} (h0 : -9223372036854775808 ≤ n) (h1 : n ≤ 9223372036854775807) : (Lib.itoa n).length ≤ 100 := Nat.le_trans (Lib.itoa_length_le n h0 h1) (by decide)
theorem len3 {a b c : Bts} {n : Nat} (ha : a.length ≤ n) (hb : b.length ≤ n) (hc : c.length ≤ n) : ∀ s ∈ [a, b, c], s.length ≤ n := by
  intro s hs
  simp only [List.mem_cons, List.not_mem_nil, or_false] at hs
  rcases hs with rfl | rfl | rfl <;> assumption

section
variable (a b : Int) (h1 : -2147483648 ≤ a) (h2 : a ≤ 2147483648) (h3 : -2147483648 ≤ b) (h4 : b ≤ 2147483648)
include h1 h2 h3 h4
theorem tl_add : Lg.Tells foundF [Lib.itoa a, [43], Lib.itoa b] (.ok (Lib.itoa (a + b))) :=
  Lg.Tells.two (Lg.free_itoa a (by omega) (by omega)) (Lg.free_itoa b (by omega) (by omega)) (Nat.le_trans (itoa_le (by omega) (by omega)) (by decide)) (Nat.le_trans (itoa_le (by omega) (by omega)) (by decide)) (by decide) (by decide) (Lg.op_add foundF a b (by omega) (by omega) (by omega) (by omega))
theorem tl_sub : Lg.Tells foundF [Lib.itoa a, [45], Lib.itoa b] (.ok (Lib.itoa (a - b))) :=
  Lg.Tells.two (Lg.free_itoa a (by omega) (by omega)) (Lg.free_itoa b (by omega) (by omega)) (Nat.le_trans (itoa_le (by omega) (by omega)) (by decide)) (Nat.le_trans (itoa_le (by omega) (by omega)) (by decide)) (by decide) (by decide) (Lg.op_sub foundF a b (by omega) (by omega) (by omega) (by omega))
theorem tl_mul : Lg.Tells foundF [Lib.itoa a, [42], Lib.itoa b] (.ok (Lib.itoa (a * b))) :=
  Lg.Tells.two (Lg.free_itoa a (by omega) (by omega)) (Lg.free_itoa b (by omega) (by omega)) (Nat.le_trans (itoa_le (by omega) (by omega)) (by decide)) (Nat.le_trans (itoa_le (by omega) (by omega)) (by decide)) (by decide) (by decide) (Lg.op_mul foundF a b h1 h2 h3 h4)
theorem tl_paren : Lg.Tells foundF [[40], Lib.itoa a, [45], Lib.itoa b, [41], [43], Lib.itoa b] (.ok (Lib.itoa a)) := by
  have fa := Lg.free_itoa a (by omega) (by omega)
  have fb := Lg.free_itoa b (by omega) (by omega)
  have la := Nat.le_trans (itoa_le (n := a) (by omega) (by omega)) (show 100 ≤ 100000000 by decide)
  have lb := Nat.le_trans (itoa_le (n := b) (by omega) (by omega)) (show 100 ≤ 100000000 by decide)
  refine Lg.Tells.of (Lg.Reads.paren_two (Lg.Reads.two_shut _ fa fb 4 (by decide) (by decide) (by decide)) fb 4 (by decide) (by decide) (by decide)) ?_
  rw [Lg.reckon_bin (u := Lib.itoa (a - b)) (v := Lib.itoa b) (by rw [Lg.reckon_two _ _ _ _ la lb]; exact Lg.op_sub foundF a b (by omega) (by omega) (by omega) (by omega)) (Lg.reckon_val _ _) (Nat.le_trans (itoa_le (by omega) (by omega)) (by decide)) lb]
  rw [Lg.op_add foundF (a - b) b (by omega) (by omega) (by omega) (by omega)]
  rw [show a - b + b = a by omega]
theorem tl_rests (h0 : b ≠ 0) : Lg.Tells foundF [Lib.itoa a, [47], Lib.itoa b, [42], Lib.itoa b, [43], Lib.itoa a, [37], Lib.itoa b] (.ok (Lib.itoa a)) := by
  have fa := Lg.free_itoa a (by omega) (by omega)
  have fb := Lg.free_itoa b (by omega) (by omega)
  have la := Nat.le_trans (itoa_le (n := a) (by omega) (by omega)) (show 100 ≤ 100000000 by decide)
  have lb := Nat.le_trans (itoa_le (n := b) (by omega) (by omega)) (show 100 ≤ 100000000 by decide)
  obtain ⟨⟨d1, d2⟩, m1, m2⟩ := rest_bounds a b h1 h2
  have hsum := Int.tdiv_mul_add_tmod a b
  generalize hd : a.tdiv b = d at *
  generalize hm : a.tmod b = m at *
  have lm := Nat.le_trans (itoa_le (n := m) (by omega) (by omega)) (show 100 ≤ 100000000 by decide)
  have ld := Nat.le_trans (itoa_le (n := d) (by omega) (by omega)) (show 100 ≤ 100000000 by decide)
  generalize hp : d * b = p at *
  have lp := Nat.le_trans (itoa_le (n := p) (by omega) (by omega)) (show 100 ≤ 100000000 by decide)
  refine Lg.Tells.of (Lg.Reads.rests fa fb) ?_
  rw [Lg.reckon_bin (u := Lib.itoa p) (v := Lib.itoa m) ?_ ?_ lp lm]
  · rw [Lg.op_add foundF p m (by omega) (by omega) (by omega) (by omega), hsum]
  · rw [Lg.reckon_bin (u := Lib.itoa d) (v := Lib.itoa b) ?_ (Lg.reckon_val _ _) ld lb]
    · rw [Lg.op_mul foundF d b d1 d2 h3 h4, hp]
    · rw [Lg.reckon_two _ _ _ _ la lb, Lg.op_div foundF a b (by omega) (by omega) (by omega) (by omega) h0, hd]
  · rw [Lg.reckon_two _ _ _ _ la lb, Lg.op_mod foundF a b (by omega) (by omega) (by omega) (by omega) h0, hm]
omit h3 h4 in
theorem tl_zero : Lg.Tells foundF [Lib.itoa a, [47], Lib.itoa 0] (.error ([], 25)) ∧ Lg.Tells foundF [Lib.itoa a, [37], Lib.itoa 0] (.error ([], 25)) := by
  have fa := Lg.free_itoa a (by omega) (by omega)
  have la := Nat.le_trans (itoa_le (n := a) (by omega) (by omega)) (show 100 ≤ 100000000 by decide)
  have lb := Nat.le_trans (itoa_le (n := 0) (by omega) (by omega)) (show 100 ≤ 100000000 by decide)
  exact ⟨Lg.Tells.two fa (Lg.free_itoa 0 (by decide) (by decide)) la lb (by decide) (by decide) (Lg.op_div0 foundF a h1 h2).1, Lg.Tells.two fa (Lg.free_itoa 0 (by decide) (by decide)) la lb (by decide) (by decide) (Lg.op_div0 foundF a h1 h2).2⟩
end
theorem tame_err : Tame (.error ([], 25) : Except Lg.Bad Bts) := fun bad e => by injection e with e; subst e; decide
/-- expr, its operands laid as it is called, tells a line. -/
theorem line_lit (l : List Bts) (cs : Array Value) (h : cs = (l.map strV).toArray) (hpos : 0 < l.length) (hll : l.length ≤ 1000000) (z : Bts) (hx : Lg.Tells foundF l (.ok z)) (hlen : ∀ s ∈ l, s.length ≤ 100000000) (hz : z.length ≤ 4000000000) (w : World) (hg : GloL w) :
    Calls Tryz.prog 9 #[.slice (some ⟨w.heap.size, 0, none⟩) l.length l.length] (w.alloc (.cells cs 9)) fun e w' => e = .returned (.string ⟨(z ++ [10]).toArray⟩) ∧ Below w.heap.size w w' :=
  expr_lit l cs h hpos hll (.ok z) hx hlen (tame_ok _) (fun s e => by injection e with e; subst e; exact hz) w hg

set_option maxRecDepth 100000 in
set_option maxHeartbeats 8000000 in
theorem sums_any (a b : Int) (la : -9223372036854775808 ≤ a) (ga : a ≤ 9223372036854775807) (lb : -9223372036854775808 ≤ b) (gb : b ≤ 9223372036854775807) (w : World) (hg : GloL w) :
    Calls Tryz.prog 4 #[.int .i64 a, .int .i64 b] w fun e w' => e = .returned (.bool true) ∧ Below w.heap.size w w' := by
  have haw := awake_any w hg
  have HG := Lib.hid hg
  clear hg
  by_cases c1 : a < -2147483648
  · have e1 : decide (a < -2147483648) = true := decide_eq_true c1
    go_enter Tryz.func4, Tryz.ntmps4
    go_wp2_with fail
    refine haw.mono ?_
    rintro e w0 ⟨rfl, hb⟩
    have HB0 := Lib.hid hb
    clear haw hb
    go_wp2_with fail
    go_ret
    exact ⟨rfl, HB0.out⟩
  by_cases c2 : 2147483648 < a
  · have e1 : decide (a < -2147483648) = false := decide_eq_false c1
    have f1 : ¬ a < -2147483648 := c1
    have e2 : decide (2147483648 < a) = true := decide_eq_true c2
    clear c1
    go_enter Tryz.func4, Tryz.ntmps4
    go_wp2_with fail
    refine haw.mono ?_
    rintro e w0 ⟨rfl, hb⟩
    have HB0 := Lib.hid hb
    clear haw hb
    go_wp2_with fail
    go_ret
    exact ⟨rfl, HB0.out⟩
  by_cases c3 : b < -2147483648
  · have e1 : decide (a < -2147483648) = false := decide_eq_false c1
    have f1 : ¬ a < -2147483648 := c1
    have e2 : decide (2147483648 < a) = false := decide_eq_false c2
    have f2 : ¬ 2147483648 < a := c2
    have e3 : decide (b < -2147483648) = true := decide_eq_true c3
    clear c1 c2
    go_enter Tryz.func4, Tryz.ntmps4
    go_wp2_with fail
    refine haw.mono ?_
    rintro e w0 ⟨rfl, hb⟩
    have HB0 := Lib.hid hb
    clear haw hb
    go_wp2_with fail
    go_ret
    exact ⟨rfl, HB0.out⟩
  by_cases c4 : 2147483648 < b
  · have e1 : decide (a < -2147483648) = false := decide_eq_false c1
    have f1 : ¬ a < -2147483648 := c1
    have e2 : decide (2147483648 < a) = false := decide_eq_false c2
    have f2 : ¬ 2147483648 < a := c2
    have e3 : decide (b < -2147483648) = false := decide_eq_false c3
    have f3 : ¬ b < -2147483648 := c3
    have e4 : decide (2147483648 < b) = true := decide_eq_true c4
    clear c1 c2 c3
    go_enter Tryz.func4, Tryz.ntmps4
    go_wp2_with fail
    refine haw.mono ?_
    rintro e w0 ⟨rfl, hb⟩
    have HB0 := Lib.hid hb
    clear haw hb
    go_wp2_with fail
    go_ret
    exact ⟨rfl, HB0.out⟩
  have HC := Lib.hid (And.intro c1 (And.intro c2 (And.intro c3 c4)))
  have e1 : decide (a < -2147483648) = false := decide_eq_false c1
  have f1 : ¬ a < -2147483648 := c1
  have e2 : decide (2147483648 < a) = false := decide_eq_false c2
  have f2 : ¬ 2147483648 < a := c2
  have e3 : decide (b < -2147483648) = false := decide_eq_false c3
  have f3 : ¬ b < -2147483648 := c3
  have e4 : decide (2147483648 < b) = false := decide_eq_false c4
  have f4 : ¬ 2147483648 < b := c4
  clear c1 c2 c3 c4
  go_enter Tryz.func4, Tryz.ntmps4
  go_wp2_with fail
  refine haw.mono ?_
  rintro e w0 ⟨rfl, hb⟩
  have HB0 := Lib.hid hb
  clear haw hb
  have gab : ∀ c : Int, -4611686018427387904 * 2 ≤ c → c < 4611686018427387904 * 2 → wrap64 c = c ∧ IntKind.i64.wrap c = c := fun c h1 h2 => ⟨by unfold wrap64; omega, by rw [IntKind.wrap_i64]; omega⟩
  have hcd := HC.out
  have hmul : -4611686018427387904 ≤ a * b ∧ a * b ≤ 4611686018427387904 := by
    have h1 : (a * b).natAbs ≤ 2147483648 * 2147483648 := by
      rw [Int.natAbs_mul]
      exact Nat.mul_le_mul (by omega) (by omega)
    omega
  have hcc := HC.out
  have b1 : -2147483648 ≤ a := by omega
  have b2 : a ≤ 2147483648 := by omega
  have b3 : -2147483648 ≤ b := by omega
  have b4 : b ≤ 2147483648 := by omega
  have HBD := Lib.hid (And.intro b1 (And.intro b2 (And.intro b3 b4)))
  obtain ⟨w1a, w1b⟩ := gab (a + b) (by omega) (by omega)
  obtain ⟨w2a, w2b⟩ := gab (a - b) (by omega) (by omega)
  obtain ⟨w3a, w3b⟩ := gab (a * b) (by omega) (by omega)
  have hdx := digits_any a la ga w0 (HG.out.below HB0.out).glo
  clear gab hcc hcd
  go_wp2_with fail
  refine hdx.mono ?_
  rintro e u1 ⟨rfl, hb⟩
  have HU1 := Lib.hid (HB0.out.trans (hb.mono HB0.out.size))
  have hdy := digits_any b lb gb u1 (HG.out.below HU1.out).glo
  clear hdx hb
  go_wp2_with fail
  refine hdy.mono ?_
  rintro e u2 ⟨rfl, hb⟩
  have HU2 := Lib.hid (HU1.out.trans (hb.mono HU1.out.size))
  clear hdy hb
  have HX : Hid ((Lib.itoa a).length ≤ 100 ∧ (Lib.itoa b).length ≤ 100) := Lib.hid ⟨itoa_le la ga, itoa_le lb gb⟩
  have HLA : Hid ((Lib.itoa a).length ≤ 100000000 ∧ (Lib.itoa b).length ≤ 100000000) := Lib.hid (by have := HX.out; omega)
  have TL1 := Lib.hid (tl_add a b HBD.out.1 HBD.out.2.1 HBD.out.2.2.1 HBD.out.2.2.2)
  have TL2 := Lib.hid (tl_add b a HBD.out.2.2.1 HBD.out.2.2.2 HBD.out.1 HBD.out.2.1)
  have TL3 := Lib.hid (tl_sub a b HBD.out.1 HBD.out.2.1 HBD.out.2.2.1 HBD.out.2.2.2)
  have TL4 := Lib.hid (tl_mul a b HBD.out.1 HBD.out.2.1 HBD.out.2.2.1 HBD.out.2.2.2)
  have TL5 := Lib.hid (tl_paren a b HBD.out.1 HBD.out.2.1 HBD.out.2.2.1 HBD.out.2.2.2)
  have TL6 := Lib.hid (fun h0 : b ≠ 0 => tl_rests a b HBD.out.1 HBD.out.2.1 HBD.out.2.2.1 HBD.out.2.2.2 h0)
  have TL7 := Lib.hid (tl_zero a HBD.out.1 HBD.out.2.1)
  have HXE : Hid (b = 0 → Lib.itoa b = Lib.itoa 0) := Lib.hid (fun e => by rw [e])
  rw [Int.add_comm b a] at TL2
  have S1 := itoa_le (n := a + b) (by omega) (by omega)
  have S3 := itoa_le (n := a - b) (by omega) (by omega)
  have S4 := itoa_le (n := a * b) (by omega) (by omega)
  have hD1 := fun w => digits_any (a + b) (by omega) (by omega) w
  have hD3 := fun w => digits_any (a - b) (by omega) (by omega) w
  have hD4 := fun w => digits_any (a * b) (by omega) (by omega) w
  clear hmul b1 b2 b3 b4
  generalize Lib.itoa (a + b) = Z1 at *
  generalize Lib.itoa (a - b) = Z3 at *
  generalize Lib.itoa (a * b) = Z4 at *
  generalize hX : Lib.itoa a = X at *
  generalize hY : Lib.itoa b = Y at *
  have HXX := Lib.hid hX
  have HYY := Lib.hid hY
  have g1 : ¬ 9223372036854775807 < Z1.length + 1 := by omega
  have g3 : ¬ 9223372036854775807 < Z3.length + 1 := by omega
  have g4 : ¬ 9223372036854775807 < Z4.length + 1 := by omega
  have g5 : ¬ 9223372036854775807 < X.length + 1 := by have := HX.out; omega
  have l1 := line_eq Z1
  have l3 := line_eq Z3
  have l4 := line_eq Z4
  have l5 := line_eq X
  have HS := Lib.hid (And.intro S1 (And.intro S3 S4))
  have HD1 := Lib.hid hD1
  have HD3 := Lib.hid hD3
  have HD4 := Lib.hid hD4
  clear S1 S3 S4 hX hY hD1 hD3 hD4
  have LR := fun (l : List Bts) cs h hp hl z hx hn hz w hg => line_lit l cs h hp hl z hx hn hz w hg
  generalize hR1 : Z1 ++ [10] = R1 at *
  generalize hR3 : Z3 ++ [10] = R3 at *
  generalize hR4 : Z4 ++ [10] = R4 at *
  generalize hR5 : X ++ [10] = R5 at *
  have HR1 := Lib.hid hR1
  have HR3 := Lib.hid hR3
  have HR4 := Lib.hid hR4
  have HR5 := Lib.hid hR5
  clear hR1 hR3 hR4 hR5 LR
  have hcl0 : Calls Tryz.prog 9 #[.slice (some ⟨u2.heap.size, 0, none⟩) 3 3] (u2.alloc (.cells #[.string ⟨X.toArray⟩, .string ⟨#[43]⟩, .string ⟨Y.toArray⟩] 9)) fun e w' => e = .returned (.string ⟨R1.toArray⟩) ∧ Below u2.heap.size u2 w' := by
    rw [← HR1.out]
    exact line_lit [X, [43], Y] _ rfl (by simp) (by simp) Z1 TL1.out (by
      intro s hs
      simp only [List.mem_cons, List.not_mem_nil, or_false] at hs
      have := HLA.out
      rcases hs with rfl | rfl | rfl <;> first | exact this.1 | exact this.2 | (simp)) (by have := HS.out; omega) u2 (HG.out.below HU2.out)
  go_wp2_with fail
  refine hcl0.mono ?_
  rintro e x0 ⟨rfl, hb⟩
  have HX0 := Lib.hid (HU2.out.trans (hb.mono HU2.out.size))
  clear hcl0 hb
  have hdg0 := HD1.out x0 (HG.out.below HX0.out).glo
  go_wp2_with fail
  refine hdg0.mono ?_
  rintro e y0 ⟨rfl, hb⟩
  have HY0 := Lib.hid (HX0.out.trans (hb.mono HX0.out.size))
  clear hdg0 hb
  have hcl1 : Calls Tryz.prog 9 #[.slice (some ⟨y0.heap.size, 0, none⟩) 3 3] (y0.alloc (.cells #[.string ⟨Y.toArray⟩, .string ⟨#[43]⟩, .string ⟨X.toArray⟩] 9)) fun e w' => e = .returned (.string ⟨R1.toArray⟩) ∧ Below y0.heap.size y0 w' := by
    rw [← HR1.out]
    exact line_lit [Y, [43], X] _ rfl (by simp) (by simp) Z1 TL2.out (by
      intro s hs
      simp only [List.mem_cons, List.not_mem_nil, or_false] at hs
      have := HLA.out
      rcases hs with rfl | rfl | rfl <;> first | exact this.1 | exact this.2 | (simp)) (by have := HS.out; omega) y0 (HG.out.below HY0.out)
  go_wp2_with fail
  refine hcl1.mono ?_
  rintro e x1 ⟨rfl, hb⟩
  have HX1 := Lib.hid (HY0.out.trans (hb.mono HY0.out.size))
  clear hcl1 hb
  have hdg1 := HD1.out x1 (HG.out.below HX1.out).glo
  go_wp2_with fail
  refine hdg1.mono ?_
  rintro e y1 ⟨rfl, hb⟩
  have HY1 := Lib.hid (HX1.out.trans (hb.mono HX1.out.size))
  clear hdg1 hb
  have hcl2 : Calls Tryz.prog 9 #[.slice (some ⟨y1.heap.size, 0, none⟩) 3 3] (y1.alloc (.cells #[.string ⟨X.toArray⟩, .string ⟨#[45]⟩, .string ⟨Y.toArray⟩] 9)) fun e w' => e = .returned (.string ⟨R3.toArray⟩) ∧ Below y1.heap.size y1 w' := by
    rw [← HR3.out]
    exact line_lit [X, [45], Y] _ rfl (by simp) (by simp) Z3 TL3.out (by
      intro s hs
      simp only [List.mem_cons, List.not_mem_nil, or_false] at hs
      have := HLA.out
      rcases hs with rfl | rfl | rfl <;> first | exact this.1 | exact this.2 | (simp)) (by have := HS.out; omega) y1 (HG.out.below HY1.out)
  go_wp2_with fail
  refine hcl2.mono ?_
  rintro e x2 ⟨rfl, hb⟩
  have HX2 := Lib.hid (HY1.out.trans (hb.mono HY1.out.size))
  clear hcl2 hb
  have hdg2 := HD3.out x2 (HG.out.below HX2.out).glo
  go_wp2_with fail
  refine hdg2.mono ?_
  rintro e y2 ⟨rfl, hb⟩
  have HY2 := Lib.hid (HX2.out.trans (hb.mono HX2.out.size))
  clear hdg2 hb
  have hcl3 : Calls Tryz.prog 9 #[.slice (some ⟨y2.heap.size, 0, none⟩) 3 3] (y2.alloc (.cells #[.string ⟨X.toArray⟩, .string ⟨#[42]⟩, .string ⟨Y.toArray⟩] 9)) fun e w' => e = .returned (.string ⟨R4.toArray⟩) ∧ Below y2.heap.size y2 w' := by
    rw [← HR4.out]
    exact line_lit [X, [42], Y] _ rfl (by simp) (by simp) Z4 TL4.out (by
      intro s hs
      simp only [List.mem_cons, List.not_mem_nil, or_false] at hs
      have := HLA.out
      rcases hs with rfl | rfl | rfl <;> first | exact this.1 | exact this.2 | (simp)) (by have := HS.out; omega) y2 (HG.out.below HY2.out)
  go_wp2_with fail
  refine hcl3.mono ?_
  rintro e x3 ⟨rfl, hb⟩
  have HX3 := Lib.hid (HY2.out.trans (hb.mono HY2.out.size))
  clear hcl3 hb
  have hdg3 := HD4.out x3 (HG.out.below HX3.out).glo
  go_wp2_with fail
  refine hdg3.mono ?_
  rintro e y3 ⟨rfl, hb⟩
  have HY3 := Lib.hid (HX3.out.trans (hb.mono HX3.out.size))
  clear hdg3 hb
  by_cases hb0 : b = 0
  · have hY0 : Y = Lib.itoa 0 := by rw [← HYY.out, hb0]
    have TLA : Hid (Lg.Tells foundF [X, [47], Y] (.error ([], 25))) := Lib.hid (by rw [hY0]; exact TL7.out.1)
    have TLB : Hid (Lg.Tells foundF [X, [37], Y] (.error ([], 25))) := Lib.hid (by rw [hY0]; exact TL7.out.2)
    have hlen3 : Hid (∀ o : Bts, o.length ≤ 100000000 → ∀ s ∈ [X, o, Y], s.length ≤ 100000000) := Lib.hid (fun o ho => len3 HLA.out.1 ho HLA.out.2)
    have hr1 := run_lit [[101, 120, 112, 114], X, [47], Y] _ rfl (by simp) (by simp) (ExprQ [101, 120, 112, 114] (.error ([], 25))) y3 (HG.out.below HY3.out) (fun w1 hg1 => by obtain ⟨f, hf⟩ := TLA.out; exact starts_expr w1 hg1 _ (by simp) f _ hf (hlen3.out _ (by decide)) tame_err (fun s e => by cases e)) (ExprQ.len (by decide) tame_err (fun s e => by cases e))
    clear hY0
    have hfield := resStatus
    go_wp2_with fail
    refine hr1.mono ?_
    rintro e v1 ⟨p1, c1, q1, d1, st, sp1, pk1, out1, err1, rfl, -, -, ⟨hs, -, -⟩, hb⟩
    subst hs
    have HV1 := Lib.hid (HY3.out.trans (hb.mono HY3.out.size))
    clear hr1 hb
    have hr2 := run_lit [[101, 120, 112, 114], X, [37], Y] _ rfl (by simp) (by simp) (ExprQ [101, 120, 112, 114] (.error ([], 25))) v1 (HG.out.below HV1.out) (fun w1 hg1 => by obtain ⟨f, hf⟩ := TLB.out; exact starts_expr w1 hg1 _ (by simp) f _ hf (hlen3.out _ (by decide)) tame_err (fun s e => by cases e)) (ExprQ.len (by decide) tame_err (fun s e => by cases e))
    go_wp2_with fail
    refine hr2.mono ?_
    rintro e v2 ⟨p2, c2, q2, d2, st, sp2, pk2, out2, err2, rfl, -, -, ⟨hs, -, -⟩, hb⟩
    subst hs
    have HV2 := Lib.hid (HV1.out.trans (hb.mono HV1.out.size))
    clear hr2 hb
    go_wp2_with fail
    go_ret
    exact ⟨rfl, HV2.out⟩
  · have TL8 := Lib.hid (TL6.out hb0)
    have e0 : (b == 0) = false := by simpa using hb0
    have hcl8 : Calls Tryz.prog 9 #[.slice (some ⟨y3.heap.size, 0, none⟩) 9 9] (y3.alloc (.cells #[.string ⟨X.toArray⟩, .string ⟨#[47]⟩, .string ⟨Y.toArray⟩, .string ⟨#[42]⟩, .string ⟨Y.toArray⟩, .string ⟨#[43]⟩, .string ⟨X.toArray⟩, .string ⟨#[37]⟩, .string ⟨Y.toArray⟩] 9)) fun e w' => e = .returned (.string ⟨R5.toArray⟩) ∧ Below y3.heap.size y3 w' := by
      rw [← HR5.out]
      exact line_lit [X, [47], Y, [42], Y, [43], X, [37], Y] _ rfl (by simp) (by simp) X TL8.out (by
        intro s hs
        simp only [List.mem_cons, List.not_mem_nil, or_false] at hs
        have := HLA.out
        rcases hs with rfl | rfl | rfl | rfl | rfl | rfl | rfl | rfl | rfl <;> first | exact this.1 | exact this.2 | (simp)) (by have := HX.out; omega) y3 (HG.out.below HY3.out)
    go_wp2_with fail
    refine hcl8.mono ?_
    rintro e x8 ⟨rfl, hb⟩
    have HX8 := Lib.hid (HY3.out.trans (hb.mono HY3.out.size))
    clear hcl8 hb
    have hcl9 : Calls Tryz.prog 9 #[.slice (some ⟨x8.heap.size, 0, none⟩) 7 7] (x8.alloc (.cells #[.string ⟨#[40]⟩, .string ⟨X.toArray⟩, .string ⟨#[45]⟩, .string ⟨Y.toArray⟩, .string ⟨#[41]⟩, .string ⟨#[43]⟩, .string ⟨Y.toArray⟩] 9)) fun e w' => e = .returned (.string ⟨R5.toArray⟩) ∧ Below x8.heap.size x8 w' := by
      rw [← HR5.out]
      exact line_lit [[40], X, [45], Y, [41], [43], Y] _ rfl (by simp) (by simp) X TL5.out (by
        intro s hs
        simp only [List.mem_cons, List.not_mem_nil, or_false] at hs
        have := HLA.out
        rcases hs with rfl | rfl | rfl | rfl | rfl | rfl | rfl <;> first | exact this.1 | exact this.2 | (simp)) (by have := HX.out; omega) x8 (HG.out.below HX8.out)
    go_wp2_with fail
    refine hcl9.mono ?_
    rintro e x9 ⟨rfl, hb⟩
    have HX9 := Lib.hid (HX8.out.trans (hb.mono HX8.out.size))
    clear hcl9 hb
    go_wp2_with fail
    go_ret
    exact ⟨rfl, HX9.out⟩

end Go.Proofs.YtfgmmaahbngonaaGreatDoor

/-
  The walk of LogicTests. Conditions: what the library's variables hold; lengths.
-/
namespace Go.Proofs.YtfgmmaahbngonaaGreatDoor
open Go.RowKit Go.Shelf Go.Maps

theorem holds_eq (s t : Bts) : Lg.holds 8 [s, [61], t] = some (.ok (s == t)) := rfl
theorem holds_ne (s t : Bts) : Lg.holds 8 [s, [33, 61], t] = some (.ok (s != t)) := rfl
theorem holds_not (s t : Bts) : Lg.holds 8 [[33], s, [61], t] = some (.ok (!(s == t))) := rfl
theorem holds_paren {X : Bts} (h : Lg.binary [40] X [41] = none) (hX : X.isEmpty = false) : Lg.holds 8 [[40], X, [41]] = some (.ok true) := by
  show (match Lg.binary [40] X [41] with
    | some x => some x
    | none => some (.ok (!X.isEmpty))) = _
  rw [h, hX]
  rfl
theorem itoa_not {a : Int} (h1 : -9223372036854775808 ≤ a) (h2 : a ≤ 9223372036854775807) (l : List Bts) (hl : ∀ t ∈ l, Lg.num t = none) : Lib.itoa a ∉ l := fun hm => by
  have := hl _ hm
  rw [Lg.num_itoa a h1 h2] at this
  cases this
theorem binary_num {a : Int} (h1 : -9223372036854775808 ≤ a) (h2 : a ≤ 9223372036854775807) : Lg.binary [40] (Lib.itoa a) [41] = none := by
  have hn := itoa_not h1 h2 ([[61], [33, 61]] ++ Lg.tnames) (by decide)
  simp only [List.cons_append, List.nil_append, List.mem_cons, not_or] at hn
  unfold Lg.binary
  rw [if_neg hn.1, if_neg hn.2.1]
  cases hp : Lg.place Lg.tnames (Lib.itoa a) with
  | none => rfl
  | some k => exact absurd (List.mem_of_getElem? (place_get hp)) hn.2.2
theorem holds_cmp {a b : Int} (la : -9223372036854775808 ≤ a) (ga : a ≤ 9223372036854775807) (lb : -9223372036854775808 ≤ b) (gb : b ≤ 9223372036854775807) (op : Bts) (k : Nat) (n1 : op ≠ [61]) (n2 : op ≠ [33, 61]) (hk : Lg.place Lg.tnames op = some k) :
    Lg.holds 8 [Lib.itoa a, op, Lib.itoa b] = some (.ok (Lg.cmpK k (Lg.sgn a b))) := by
  have hb : Lg.binary (Lib.itoa a) op (Lib.itoa b) = some (.ok (Lg.cmpK k (Lg.sgn a b))) := by
    unfold Lg.binary
    rw [if_neg n1, if_neg n2, hk]
    simp only [Lg.nums_itoa a b la ga lb gb]
  unfold Lg.holds
  simp only [hb]
theorem len4 {a b c d : Bts} {n : Nat} (ha : a.length ≤ n) (hb : b.length ≤ n) (hc : c.length ≤ n) (hd : d.length ≤ n) : ∀ s ∈ [a, b, c, d], s.length ≤ n := by
  intro s hs
  simp only [List.mem_cons, List.not_mem_nil, or_false] at hs
  rcases hs with rfl | rfl | rfl | rfl <;> assumption

end Go.Proofs.YtfgmmaahbngonaaGreatDoor
