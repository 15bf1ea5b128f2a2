/-
  Texts of this seat put together: O6, Num, V9, V10, D1, D2.
-/
import Derived.Test.YtbpcfjoebfbjmaaGreatDoorQ16
import Derived.Test.YtbpcfjoebfbjmaaGreatDoorQ3
import Derived.Lib.ParseIntBTie
import Derived.Test.YtbpcfjoebfbjmaaGreatDoorQ13
import Derived.Test.YtbpcfjoebfbjmaaGreatDoorQ14
import Derived.Test.YtbpcfjoebfbjmaaGreatDoorQ15
import Derived.Laws.IdiomRangeMap
import Derived.Maps.RangeRun

/-
  The walk of opt.Last over slices.Backward. Condition: the options lie in memory.
-/
namespace Go.Proofs.YtbpcfjoebfbjmaaGreatDoor
open Go.RowKit Go.Shelf Go.Maps
attribute [local go_sem] Oper.semAt_some

theorem last_app (A B : List OptA) (c : UInt8) : Op.last (A ++ B) c = match Op.last B c with | some y => some y | none => Op.last A c := by
  induction A with
  | nil => simp only [List.nil_append, Op.last]; cases Op.last B c <;> rfl
  | cons x r ih =>
    rw [List.cons_append, Op.last, ih]
    cases Op.last B c with
    | none => rfl
    | some y => rfl
theorem last_none (L : List OptA) (c : UInt8) (h : ∀ x ∈ L, x.1 ≠ c) : Op.last L c = none := by
  induction L with
  | nil => rfl
  | cons x r ih =>
    rw [Op.last, ih fun y hy => h y (by simp [hy]), if_neg (h x (by simp))]
theorem fromEnd_mem {L : List OptA} {i : Nat} (hi : i < L.length) {k : Nat} (hk : L.length - 1 - i < k) : ∃ y ∈ upto (fromEnd L) k, y.2 = L[i] := by
  refine ⟨fromEnd L (L.length - 1 - i), List.mem_map.2 ⟨_, List.mem_range.2 hk, rfl⟩, ?_⟩
  unfold fromEnd
  have e : L.length - 1 - (L.length - 1 - i) = i := by omega
  simp only [e]
  simp [List.getD_eq_getElem?_getD, List.getElem?_eq_getElem hi]
theorem last_done {L : List OptA} {c : UInt8} (h : ∀ y ∈ upto (fromEnd L) L.length, y.2.1 ≠ c) : Op.last L c = none := by
  refine last_none L c fun x hx => ?_
  obtain ⟨i, hi, rfl⟩ := List.getElem_of_mem hx
  obtain ⟨y, hy, e⟩ := fromEnd_mem hi (k := L.length) (by omega)
  rw [← e]
  exact h y hy
theorem last_stop {L : List OptA} {c : UInt8} {k : Nat} (hk : k < L.length) (h : ∀ y ∈ upto (fromEnd L) k, y.2.1 ≠ c) (hx : (fromEnd L k).2.1 = c) : Op.last L c = some (fromEnd L k).2.2 := by
  have hm : L.length - 1 - k < L.length := by omega
  have e : L = L.take (L.length - 1 - k) ++ L[L.length - 1 - k] :: L.drop (L.length - 1 - k + 1) := by
    rw [← List.drop_eq_getElem_cons hm, List.take_append_drop]
  have ex : (fromEnd L k).2 = L[L.length - 1 - k] := by
    unfold fromEnd
    simp [List.getD_eq_getElem?_getD, List.getElem?_eq_getElem hm]
  have hr : Op.last (L.drop (L.length - 1 - k + 1)) c = none := by
    refine last_none _ c fun x hx => ?_
    obtain ⟨i, hi, rfl⟩ := List.getElem_of_mem hx
    rw [List.getElem_drop]
    simp at hi
    obtain ⟨y, hy, e⟩ := fromEnd_mem (L := L) (i := L.length - 1 - k + 1 + i) (by omega) (k := k) (by omega)
    rw [← e]
    exact h y hy
  rw [ex] at hx ⊢
  conv => lhs; rw [e]
  rw [last_app, Op.last, hr]
  simp only [if_pos hx]

theorem back_stops (F : Fence) (n : Nat) (hF : F.fn 183) (hro : F.round = none) (hn : 1 ≤ n) (Bs : Nat) (L : List OptA) (p : Option Addr) (cap : Nat) (hcap : L.length ≤ cap) (hN : L.length ≤ 1000000) (w : World) (hBs : w.cell? ⟨Bs, 0, none⟩ = some (.slice p L.length cap)) (hO : OptsAt w p L) :
    SeqStopsK F n Tryz.prog 183 #[.pointer (some ⟨Bs, 0, none⟩)] encO (Below w.heap.size) (fun ys => ys = upto (fromEnd L) L.length) (fun pre => ∃ k, k ≤ L.length ∧ pre = upto (fromEnd L) k) L.length w := fun l J Jx W hW _ _ hY h0 =>
  back1_in F n hF hro hn l Bs w.heap.size L p cap hcap hN J Jx hY w W hW rfl ((hW.cell (p := ⟨Bs, 0, none⟩) (World.block_lt_of_cell? _ _ hBs)).trans hBs) (World.block_lt_of_cell? _ _ hBs) hO h0

theorem backward_any (v : Value) (p : Option Addr) (n c : Nat) (hv : v = .slice p n c) (w : World) : Calls Tryz.prog 136 #[v] w fun e w' => e = .returned (.func (.func 183) #[] #[.pointer (some ⟨w.heap.size, 0, none⟩)]) ∧ w' = w.alloc (.cells #[v] 177) := by
  subst hv
  have hmf : ∀ (fn : Fn) (first cap : Array Value) (w : World), (Instr.makeFunc fn first cap).run Tryz.prog w = .ok (.func fn first cap) w := fun _ _ _ _ => rfl
  go_enter Tryz.func136, Tryz.ntmps136
  go_wp2_with fail
  go_ret
  exact ⟨rfl, rfl⟩

theorem boxed_step {A B : World} {row : Option Nat} {q : Nat} {t : TypeId} {v : Value} (h : Boxed A q t v) (hg : A.grownBy B row) (hr : ∀ r, row = some r → ∃ o : Obj, A.heap[r]? = some o ∧ o.isCells = false) : Boxed B q t v :=
  h.kept hg fun e' => by
    obtain ⟨o, ho, hc⟩ := hr q e'.symm
    rw [show A.heap[q]? = _ from h] at ho; cases ho; cases hc
theorem blk_step {A B : World} {row : Option Nat} {q : Nat} {t : TypeId} {cs : Array Value} (h : Blk A q cs t) (hg : A.grownBy B row) (hr : ∀ r, row = some r → ∃ o : Obj, A.heap[r]? = some o ∧ o.isCells = false) : Blk B q cs t :=
  (hg.block q h.lt fun e' => by
    obtain ⟨o, ho, hc⟩ := hr q e'.symm
    rw [show A.heap[q]? = _ from h] at ho; cases ho; cases hc).trans h

/-- What Last hands back. -/
def lastV (r : Option Bts) : Value := match r with
  | none => .tuple #[.string ⟨#[]⟩, .bool false]
  | some s => .tuple #[strV s, .bool true]

set_option maxRecDepth 100000 in
set_option maxHeartbeats 4000000 in
theorem last_any (L : List OptA) (c : UInt8) (p : Option Addr) (cap : Nat) (hcap : L.length ≤ cap) (hN : L.length ≤ 1000000) (w : World) (h : OptsAt w p L) :
    Calls Tryz.prog 86 #[.slice p L.length cap, .int .u8 c.toNat] w fun e w' => e = .returned (lastV (Op.last L c)) ∧ Below w.heap.size w w' := by
  refine callsIn_wide.1 (callsIn_of_wp_marks (n := 3) Tryz.func86 rfl trivial ?_ rfl)
  simp only [Tryz.ntmps86, List.size_toArray, List.length_cons, List.length_nil, Nat.reduceAdd, Nat.reduceSub, Array.replicate_succ, Array.replicate_zero, List.push_toArray, List.append_toArray, List.nil_append, List.cons_append]
  gi_wp2_with (refine ⟨trivial, ?_⟩; gi_at_call 136; refine (callsIn_wide.2 (backward_any _ p L.length cap rfl _)).mono ?_; rintro e w' ⟨rfl, rfl⟩)
  obtain ⟨W0, hW0⟩ : ∃ W0, (((w.alloc (.cells #[.int .u8 c.toNat] 5)).alloc (.cells #[.string ⟨#[]⟩] 9)).alloc (.cells #[.bool false] 4)).alloc (.cells #[.slice p L.length cap] 177) = W0 := ⟨_, rfl⟩
  have hsz : W0.heap.size = w.heap.size + 4 := by rw [← hW0]; simp
  have hB0 : Below w.heap.size w W0 := by rw [← hW0]; exact ((((Below.refl _ w).alloc (Nat.le_refl _) _).alloc (by simp) _).alloc (by simp; omega) _).alloc (by simp; omega) _
  have k3 : Boxed W0 w.heap.size 5 (.int .u8 c.toNat) := by rw [← hW0]; exact (((Boxed.new w _ _).alloc _).alloc _).alloc _
  have k4 : Boxed W0 (w.heap.size + 1) 9 (.string ⟨#[]⟩) := by
    rw [← hW0]
    have := Boxed.new (w.alloc (.cells #[.int .u8 c.toNat] 5)) 9 (.string ⟨#[]⟩)
    rw [World.size_alloc] at this
    exact (this.alloc _).alloc _
  have k5 : Boxed W0 (w.heap.size + 1 + 1) 4 (.bool false) := by
    rw [← hW0]
    have := Boxed.new ((w.alloc (.cells #[.int .u8 c.toNat] 5)).alloc (.cells #[.string ⟨#[]⟩] 9)) 4 (.bool false)
    simp only [World.size_alloc] at this
    exact this.alloc _
  have k6 : W0.cell? ⟨w.heap.size + 1 + 1 + 1, 0, none⟩ = some (.slice p L.length cap) := by
    rw [← hW0]
    have := (Boxed.new (((w.alloc (.cells #[.int .u8 c.toNat] 5)).alloc (.cells #[.string ⟨#[]⟩] 9)).alloc (.cells #[.bool false] 4)) 177 (.slice p L.length cap)).cell
    simp only [World.size_alloc] at this
    exact this
  have hO0 := h.below hB0
  rw [hW0]
  clear hW0 h
  refine wpIn_rangeFunc_ownH rfl (by decide) (gf := 183) (lb := #[.pointer (some ⟨w.heap.size + 1 + 1 + 1, 0, none⟩)]) rfl trivial (enters_of Tryz.func183 (by kernel_rfl) rfl)
    (back_stops Fence.wide 2 trivial rfl (by decide) (w.heap.size + 1 + 1 + 1) L p cap hcap hN W0 k6 hO0) belowK_t (belowK_b (Nat.le_refl _)) (Below.refl _ _) (fun _ => rfl)
    (fun pre W => ((∀ y ∈ pre, y.2.1 ≠ c) ∧ Boxed W w.heap.size 5 (.int .u8 c.toNat) ∧ Boxed W (w.heap.size + 1) 9 (.string ⟨#[]⟩) ∧ Boxed W (w.heap.size + 1 + 1) 4 (.bool false)) ∧ Below W0.heap.size W0 W)
    (fun cd pre W => (cd = .ret ∧ ∃ pre0 x, pre = pre0 ++ [x] ∧ (∀ y ∈ pre0, y.2.1 ≠ c) ∧ x.2.1 = c ∧ Boxed W (w.heap.size + 1) 9 (strV x.2.2) ∧ Boxed W (w.heap.size + 1 + 1) 4 (.bool true)) ∧ Below w.heap.size w W)
    (OwnFrom.and (Own.from (fun s A B row hs hg hr => ⟨hs.1, boxed_step hs.2.1 hg hr, boxed_step hs.2.2.1 hg hr, boxed_step hs.2.2.2 hg hr⟩) _) (ownFrom_below (Nat.le_refl _) (Nat.le_refl _)))
    (fun cd => OwnFrom.and (Own.from (fun s A B row hs hg hr => by
      obtain ⟨e, pre0, x, e2, h1, h2, h3, h4⟩ := hs
      exact ⟨e, pre0, x, e2, h1, h2, boxed_step h3 hg hr, boxed_step h4 hg hr⟩) _) (ownFrom_below (Nat.le_refl _) (by omega)))
    ⟨⟨by simp, k3, k4, k5⟩, Below.refl _ _⟩
    (fun x a' W => ∃ Bx, W0.heap.size ≤ Bx ∧ Blk W Bx #[.int .u8 x.2.1.toNat, strV x.2.2] 227 ∧ a' = { tmps := #[.slice p L.length cap, .int .u8 c.toNat, undef, .pointer (some ⟨w.heap.size, 0, none⟩), .pointer (some ⟨w.heap.size + 1, 0, none⟩), .pointer (some ⟨w.heap.size + 1 + 1, 0, none⟩), undef, .pointer (some ⟨Bx, 0, none⟩), .slice p L.length cap, .func (.func 183) #[] #[.pointer (some ⟨w.heap.size + 1 + 1 + 1, 0, none⟩)], .int .i64 x.1, .agg #[.int .u8 x.2.1.toNat, strV x.2.2], undef, undef, undef, undef, undef, undef], defers := [] })
    (fun x a' s A B row hs hg hr => by
      obtain ⟨Bx, h1, h2, h3⟩ := hs
      exact ⟨Bx, h1, blk_step h2 hg (fun r e => (hr r e).2), h3⟩) ?assign ?body ?done ?stop
  case assign =>
    rintro l pre x W K ⟨⟨hp, hb3, hb4, hb5⟩, hB⟩ hK
    unfold strV at *
    unfold encO strV
    gi_wp2
    exact hK _ _ ((KeepsOthers.alloc _ _).from _) ((Below.refl _ W).alloc hB.size _) ⟨⟨hp, hb3.alloc _, hb4.alloc _, hb5.alloc _⟩, hB.alloc hB.size _⟩ ⟨W.heap.size, hB.size, Blk.new _ _ _, rfl⟩
  case body =>
    rintro l pre x a' W hl ⟨r, hr⟩ ⟨⟨hp, hb3, hb4, hb5⟩, hB⟩ ⟨Bx, hBx, bX, rfl⟩ hlt
    have c3 := hb3.cell
    have c4 := hb4.cell
    have f4 := hb4.frozen
    have c5 := hb5.cell
    have f5 := hb5.frozen
    have x0 := bX.cell 0 (v := .int .u8 x.2.1.toNat) rfl
    have x1 := bX.cell 1 (v := strV x.2.2) rfl
    unfold strV at *
    by_cases hx : x.2.1 = c
    · have e1 : ((x.2.1.toNat : Int) == (c.toNat : Int)) = true := by rw [hx]; simp
      have hx2 := Lib.hid hx
      clear hx
      gi_wp2
      refine ⟨((KeepsOthers.setCell _ _ _).trans (KeepsOthers.setCell _ _ _)).from _, ⟨rfl, pre, x, rfl, hp, hx2.out, ?_, ?_⟩, (hB0.trans (hB.mono (by omega))).setCell (p := ⟨w.heap.size + 1, 0, none⟩) (by simp) _ |>.setCell (p := ⟨w.heap.size + 1 + 1, 0, none⟩) (by simp; omega) _⟩
      · exact (Boxed.set _ hb4).other (by omega) _
      · exact Boxed.set _ (hb5.other (by omega) _)
    · have e1 : ((x.2.1.toNat : Int) == (c.toNat : Int)) = false := by
        rw [← u8_beq]; simpa using hx
      have hx2 := Lib.hid hx
      clear hx
      gi_wp2
      exact ⟨(KeepsOthers.refl _).from _, Below.refl _ _, ⟨fun y hy => (List.mem_append.1 hy).elim (hp y) (fun e => by simp at e; subst e; exact hx2.out), hb3, hb4, hb5⟩, hB⟩
  case done =>
    rintro D ys W hD rfl ⟨⟨hp, hb3, hb4, hb5⟩, hB⟩ hK
    have hv : lastV (Op.last L c) = .tuple #[.string ⟨#[]⟩, .bool false] := by rw [last_done hp]; rfl
    have HV := Lib.hid hv
    have c4 := hb4.cell
    have f4 := hb4.frozen
    have c5 := hb5.cell
    have f5 := hb5.frozen
    clear hp hv
    gi_wp2
    have hK1 := (KeepsOthers.setCell W ⟨w.heap.size + 1, 0, none⟩ (.string ⟨#[]⟩)).same D _ hK rfl
    have hK2 := (KeepsOthers.setCell _ ⟨w.heap.size + 1 + 1, 0, none⟩ (.bool false)).same D _ hK1 rfl
    refine ⟨by simp, .inl ⟨_, _, rfl, run_takeDeferred hK2, ?_⟩⟩
    have m4 := (Boxed.set (.string ⟨#[]⟩) hb4).other (B' := w.heap.size + 1 + 1) (by omega) (.bool false)
    have m5 := Boxed.set (.bool false) (hb5.other (B' := w.heap.size + 1) (by omega) (.string ⟨#[]⟩))
    have d4 := cell_kept m4.cell (grownBy_putObj' _ D (.deferred none)) (fun r e => by cases e; exact ⟨_, hK2, rfl⟩)
    have d5 := cell_kept m5.cell (grownBy_putObj' _ D (.deferred none)) (fun r e => by cases e; exact ⟨_, hK2, rfl⟩)
    refine ⟨_, ?_, by rw [HV.out], (((hB0.trans (hB.mono (by omega))).setCell (p := ⟨w.heap.size + 1, 0, none⟩) (by simp) _).setCell (p := ⟨w.heap.size + 1 + 1, 0, none⟩) (by simp; omega) _).trans (belowK_b (w := w) (Nat.le_refl _) _ D _ _ (by omega) hK2 rfl rfl)⟩
    simp [results, Tryz.results86, go_sem, d4, d5]
  case stop =>
    rintro D cd pre W hD ⟨k, hk, hpre⟩ ⟨⟨rfl, pre0, x, hpx, hp0, hx, hb4, hb5⟩, hB⟩ hK
    have hk1 : k = pre0.length + 1 := by
      have := congrArg List.length hpre
      rw [hpx, upto_length] at this
      simp at this; omega
    subst hk1
    rw [hpx, upto_succ] at hpre
    obtain ⟨h1, h2⟩ := List.append_inj' hpre rfl
    obtain rfl : x = fromEnd L pre0.length := by injection h2
    have hv : lastV (Op.last L c) = .tuple #[strV (fromEnd L pre0.length).2.2, .bool true] := by rw [last_stop (by omega) (by rw [← h1]; exact hp0) hx]; rfl
    have HV := Lib.hid hv
    clear hpx hx hp0 h1 h2 hv hpre
    gi_wp2
    refine ⟨by simp, .inl ⟨_, _, rfl, run_takeDeferred hK, ?_⟩⟩
    have c4 := cell_kept hb4.cell (grownBy_putObj' _ D (.deferred none)) (fun r e => by cases e; exact ⟨_, hK, rfl⟩)
    have c5 := cell_kept hb5.cell (grownBy_putObj' _ D (.deferred none)) (fun r e => by cases e; exact ⟨_, hK, rfl⟩)
    refine ⟨_, ?_, by rw [HV.out], hB.trans (belowK_b (w := w) (Nat.le_refl _) W D _ _ (by omega) hK rfl rfl)⟩
    simp [results, Tryz.results86, go_sem, c4, c5]

end Go.Proofs.YtbpcfjoebfbjmaaGreatDoor

/-
  The walk of text.Number; the plain law of digits' values. Conditions: the strings are no longer than memory allows; the library's variables hold errors.
-/
namespace Go.Proofs.YtbpcfjoebfbjmaaGreatDoor.Ord
open Go
abbrev Bytes := List UInt8
def digit (c : UInt8) : Bool := 48 ≤ c && c ≤ 57
def value (s : Bytes) : Nat := s.foldl (fun n c => n * 10 + (c.toNat - 48)) 0
/-- text.Number. -/
def number (s : Bytes) (most : Int) : Option Int :=
  if !s.isEmpty && s.all digit && decide ((value s : Int) ≤ most) then some (value s) else none
/-! ParseInt of digits alone. -/
def valueFrom (a : Nat) (s : Bytes) : Nat := s.foldl (fun n c => n * 10 + (c.toNat - 48)) a

theorem valueFrom_ge (s : Bytes) : ∀ a, a ≤ valueFrom a s := by
  induction s with
  | nil => intro a; exact Nat.le_refl _
  | cons c r ih => intro a; have := ih (a * 10 + (c.toNat - 48)); simp only [valueFrom, List.foldl_cons] at this ⊢; omega

theorem digit_nat {c : UInt8} (h : digit c = true) : 48 ≤ c.toNat ∧ c.toNat ≤ 57 := by
  simpa [digit, UInt8.le_iff_toNat_le] using h

theorem parseUintM_digits (s : Bytes) : ∀ a, s.all digit = true → a ≤ 18446744073709551615 →
    Lib.parseUintM 18446744073709551615 a s = if valueFrom a s ≤ 18446744073709551615 then .ok (valueFrom a s) else .range := by
  induction s with
  | nil => intro a _ ha; simp [Lib.parseUintM, valueFrom, ha]
  | cons c r ih =>
    intro a hs ha
    simp only [List.all_cons, Bool.and_eq_true] at hs
    have hd := digit_nat hs.1
    have hv := valueFrom_ge r (a * 10 + (c.toNat - 48))
    have e : valueFrom a (c :: r) = valueFrom (a * 10 + (c.toNat - 48)) r := rfl
    simp only [Lib.parseUintM, if_pos hd]
    rw [e]
    by_cases h1 : 1844674407370955162 ≤ a
    · rw [if_pos h1, if_neg (by omega)]
    · rw [if_neg h1]
      by_cases h2 : 18446744073709551615 < a * 10 + (c.toNat - 48)
      · rw [if_pos h2, if_neg (by omega)]
      · rw [if_neg h2]; exact ih _ hs.2 (by omega)

theorem parseIntB_digits (s : Bytes) (hs : s.all digit = true) (h0 : s ≠ []) :
    Lib.parseIntB 64 s = if value s < 9223372036854775808 then .ok (value s : Int) else .range := by
  match s, hs, h0 with
  | c :: r, hs, _ =>
    have hd := digit_nat (by simp only [List.all_cons, Bool.and_eq_true] at hs; exact hs.1)
    have hu : Lib.parseUintB 64 (c :: r) = if value (c :: r) ≤ 18446744073709551615 then .ok (value (c :: r)) else .range := by
      unfold Lib.parseUintB
      rw [if_neg (by simp)]
      exact parseUintM_digits (c :: r) 0 hs (by omega)
    have hu' : Lib.parseUintB 64 (if c.toNat = 43 ∨ c.toNat = 45 then r else c :: r) = if value (c :: r) ≤ 18446744073709551615 then .ok (value (c :: r)) else .range := by
      rw [if_neg (by omega)]; exact hu
    simp only [Lib.parseIntB, hu']
    have h45 : ¬ c.toNat = 45 := by omega
    by_cases h1 : value (c :: r) ≤ 18446744073709551615
    · rw [if_pos h1]
      by_cases h2 : value (c :: r) < 9223372036854775808
      · rw [if_pos h2]; simp [h45]; omega
      · rw [if_neg h2]; simp [h45]; omega
    · rw [if_neg h1, if_neg (by omega)]

theorem number_none_of (s : Bytes) (most : Int) (h : s = [] ∨ s.all digit = false ∨ most < value s) : number s most = none := by
  unfold number
  rcases h with h | h | h
  · simp [h]
  · simp [h]
  · rw [if_neg]; simp; intro _ _; omega
theorem number_some_of (s : Bytes) (most : Int) (h0 : s ≠ []) (h : s.all digit = true) (hv : (value s : Int) ≤ most) : number s most = some (value s : Int) := by
  unfold number
  rw [if_pos]
  simp [h0, h, hv]

end Go.Proofs.YtbpcfjoebfbjmaaGreatDoor.Ord

namespace Go.Proofs.YtbpcfjoebfbjmaaGreatDoor
open Go.RowKit Go.Shelf

theorem digit_int (c : UInt8) : Ord.digit c = (decide ((48 : Int) ≤ c.toNat) && decide ((c.toNat : Int) ≤ 57)) := by
  simp only [Ord.digit, u8_le]; rfl
theorem digit_no {c : UInt8} (h : (c.toNat : Int) < 48 ∨ 57 < (c.toNat : Int)) : Ord.digit c = false := by
  rw [digit_int]; simp; omega
theorem digit_yes {c : UInt8} (h : (48 : Int) ≤ c.toNat) (h' : (c.toNat : Int) ≤ 57) : Ord.digit c = true := by
  rw [digit_int]; simp; omega

/-- text.Number's answer. -/
def numVal (l : Ord.Bytes) (most : Int) : Value := match Ord.number l most with
  | none => .tuple #[.int .i64 0, .bool false]
  | some v => .tuple #[.int .i64 v, .bool true]

theorem parseInt_bad (l : Ord.Bytes) (hl : l.length ≤ 140737488351232) (h : l = [] ∨ (l.all Ord.digit = true ∧ 9223372036854775808 ≤ Ord.value l)) (w : World) (hg : Glo w) :
    Calls Tryz.prog 29 #[.string ⟨l.toArray⟩, .int .i64 10, .int .i64 64] w fun e w' => (∃ n t a, e = .returned (.tuple #[.int .i64 n, .iface t (.pointer (some a))])) ∧ Below w.heap.size w w' := by
  obtain ⟨⟨t1, p1, h1⟩, ⟨t2, p2, h2⟩, -⟩ := hg
  by_cases h0 : l = []
  · subst h0
    exact (Any.strconv_ParseInt_10_at64_syntax_var Tryz.laysC174 ⟨#[]⟩ (by decide) rfl t1 p1 w h1).mono fun e w' ⟨N, he, _, _, hb⟩ => ⟨⟨_, _, _, he⟩, hb⟩
  · rcases h with h | ⟨ha, hv⟩
    · exact absurd h h0
    · exact (Any.strconv_ParseInt_10_at64_range_var Tryz.laysC174 ⟨l.toArray⟩ (by simp [ByteArray.size]; omega) (by rw [Ord.parseIntB_digits l ha h0, if_neg (by omega)]) t2 p2 w h2).mono fun e w' ⟨N, he, _, _, hb⟩ => ⟨⟨_, _, _, he⟩, hb⟩

theorem parseInt_good (l : Ord.Bytes) (hl : l.length ≤ 140737488351232) (h0 : l ≠ []) (ha : l.all Ord.digit = true) (hv : Ord.value l < 9223372036854775808) (w : World) :
    Calls Tryz.prog 29 #[.string ⟨l.toArray⟩, .int .i64 10, .int .i64 64] w fun e w' => e = .returned (.tuple #[.int .i64 (Ord.value l), .nilIface]) ∧ Below w.heap.size w w' := by
  refine (Any.strconv_ParseInt_10_at64_ok Tryz.laysC174 ⟨l.toArray⟩ (by simp [ByteArray.size]; omega) (Ord.value l) (by rw [Ord.parseIntB_digits l ha h0, if_pos hv]) w).mono fun e w' ⟨he, hw⟩ => ⟨he, ?_⟩
  rcases hw with rfl | ⟨t, rfl⟩
  · exact Below.refl _ _
  · exact Lib.bytesWorld_below _ _ _

/-- Are so many of the first bytes digits? -/
theorem all_take (l : Ord.Bytes) (k : Nat) (hk : k < l.length) : (l.take (k + 1)).all Ord.digit = ((l.take k).all Ord.digit && Ord.digit (l.getD k 0)) := by
  rw [List.take_succ_eq_append_getElem hk, List.all_append]
  simp [List.getD_eq_getElem?_getD, List.getElem?_eq_getElem hk]

theorem all_false_at (l : Ord.Bytes) (k : Nat) (hk : k < l.length) (h : Ord.digit (l.getD k 0) = false) : l.all Ord.digit = false := by
  rw [List.all_eq_false]
  exact ⟨l.getD k 0, by rw [List.getD_eq_getElem?_getD, List.getElem?_eq_getElem hk]; exact List.getElem_mem hk, by rw [h]; decide⟩

theorem numVal_none {l : Ord.Bytes} {most : Int} (h : l = [] ∨ l.all Ord.digit = false ∨ most < Ord.value l) : numVal l most = .tuple #[.int .i64 0, .bool false] := by
  unfold numVal; rw [Ord.number_none_of l most h]
theorem numVal_some {l : Ord.Bytes} {most : Int} (h0 : l ≠ []) (h : l.all Ord.digit = true) (hv : (Ord.value l : Int) ≤ most) : numVal l most = .tuple #[.int .i64 (Ord.value l), .bool true] := by
  unfold numVal; rw [Ord.number_some_of l most h0 h hv]

set_option maxRecDepth 100000 in
theorem based_any (l : Ord.Bytes) (most : Int) (hl : l.length ≤ 140737488351232) (hm0 : 0 ≤ most) (hm : most ≤ 2147483647) (w : World) (hg : Glo w) :
    Calls Tryz.prog 16 #[.string ⟨l.toArray⟩, .int .i64 most, .int .i64 10] w fun e w' => e = .returned (numVal l most) ∧ Below w.heap.size w w' := by
  have hconv := fun w => Lib.run_convert_string_bytes (P := Tryz.prog) w 9 22 5 ⟨l.toArray⟩ Tryz.underlying9 Tryz.underlying22 Tryz.underlying5
  have hsz : (⟨l.toArray⟩ : ByteArray).size = l.length := by simp [ByteArray.size]
  simp only [hsz] at hconv
  have hbel := Lib.bytesWorld_below w 5 ⟨l.toArray⟩
  have hcell : ∀ j, j < l.length → (Lib.bytesWorld w 5 ⟨l.toArray⟩).cell? ⟨w.heap.size, j, none⟩ = some (.int .u8 (l.getD j 0).toNat) := fun j hj => Lib.bytesWorld_cell w 5 ⟨l.toArray⟩ j (by rw [hsz]; exact hj)
  have hsize := Lib.bytesWorld_size w 5 ⟨l.toArray⟩
  go_enter Tryz.func16, Tryz.ntmps16
  go_wp2_with fail
  clear hconv
  generalize Lib.bytesWorld w 5 ⟨l.toArray⟩ = w1 at *
  have hg1 := hg.below hbel
  go_loop [15] (fun i => ∃ k : Nat, k ≤ l.length ∧ (l.take k).all Ord.digit = true ∧ i = .int .i64 k) (fun i => l.length - (intOf i).toNat)
  case atStart => exact ⟨0, Nat.zero_le _, rfl, rfl⟩
  case round =>
    obtain ⟨k, hk, hall, rfl⟩ := hrel
    have HA := Lib.hid hall; clear hall
    by_cases hlt : k < l.length
    · have hc := hcell k hlt
      have hbd := u8_bd (l.getD k 0)
      have eg : l[k] = l.getD k 0 := by simp [List.getD_eq_getElem?_getD, List.getElem?_eq_getElem hlt]
      have EG := Lib.hid eg; clear eg
      go_wp2_with fail
      · have h1 : (l[k].toNat : Int) < 48 := by assumption
        rw [EG.out] at h1
        go_ret2
        refine ⟨?_, hbel⟩
        rw [numVal_none (.inr (.inl (all_false_at l k hlt (digit_no (by omega)))))]; rfl
      · have h1 : 10 ≤ ((l[k].toNat : Int) - 48) % 256 := by assumption
        rw [EG.out] at h1
        go_ret2
        refine ⟨?_, hbel⟩
        rw [numVal_none (.inr (.inl (all_false_at l k hlt (digit_no (by omega)))))]; rfl
      · have h1 : ((l[k].toNat : Int) - 48) % 256 < 10 := by assumption
        have h2 : ¬ (l[k].toNat : Int) < 48 := by assumption
        rw [EG.out] at h1 h2
        go_round
        case rel => exact ⟨k + 1, by omega, by rw [all_take l k hlt, HA.out, digit_yes (by omega) (by omega)]; rfl, by go_num⟩
        case measure => simp [intOf]; omega
    · obtain rfl : k = l.length := by omega
      have hall : l.all Ord.digit = true := by simpa using HA.out
      have HA2 := Lib.hid hall; clear hall HA
      by_cases h0 : l = [] ∨ 9223372036854775808 ≤ Ord.value l
      · have HN := Lib.hid (show numVal l most = .tuple #[.int .i64 0, .bool false] from numVal_none (by rcases h0 with h | h; exact .inl h; exact .inr (.inr (by omega))))
        have hbad := fun w => parseInt_bad l hl (h0.imp id fun h => ⟨HA2.out, h⟩) w
        clear h0
        go_wp2_with (go_at_call 29; refine (hbad _ hg1).mono ?_; rintro e w2 ⟨⟨n, t, a, rfl⟩, hb2⟩)
        go_ret2
        exact ⟨by rw [HN.out]; rfl, hbel.trans (hb2.mono (by omega))⟩
      · have hn0 : l ≠ [] := fun h => h0 (.inl h)
        have hv : Ord.value l < 9223372036854775808 := by rcases Nat.lt_or_ge (Ord.value l) 9223372036854775808 with h | h; exact h; exact absurd (.inr h) h0
        have hgood := fun w => parseInt_good l hl hn0 HA2.out hv w
        clear h0
        by_cases hv2 : (Ord.value l : Int) ≤ most
        · have HN := Lib.hid (numVal_some (most := most) hn0 HA2.out hv2)
          clear hn0
          go_wp2_with (go_at_call 29; refine (hgood _).mono ?_; rintro e w2 ⟨rfl, hb2⟩)
          go_ret2
          exact ⟨by rw [HN.out]; rfl, hbel.trans (hb2.mono (by omega))⟩
        · have HN := Lib.hid (show numVal l most = .tuple #[.int .i64 0, .bool false] from numVal_none (.inr (.inr (by omega))))
          clear hn0
          go_wp2_with (go_at_call 29; refine (hgood _).mono ?_; rintro e w2 ⟨rfl, hb2⟩)
          go_ret2
          exact ⟨by rw [HN.out]; rfl, hbel.trans (hb2.mono (by omega))⟩

set_option maxRecDepth 100000 in
theorem number_any (l : Ord.Bytes) (most : Int) (hl : l.length ≤ 140737488351232) (hm0 : 0 ≤ most) (hm : most ≤ 2147483647) (w : World) (hg : Glo w) :
    Calls Tryz.prog 9 #[.string ⟨l.toArray⟩, .int .i64 most] w fun e w' => e = .returned (numVal l most) ∧ Below w.heap.size w w' := by
  have hb := fun w' hg' => based_any l most hl hm0 hm w' hg'
  have hx : ∃ n b, numVal l most = .tuple #[.int .i64 n, .bool b] := by
    unfold numVal; split <;> exact ⟨_, _, rfl⟩
  obtain ⟨n, b, hx⟩ := hx
  rw [hx] at hb ⊢
  clear hx
  go_enter Tryz.func9, Tryz.ntmps9
  go_wp2_with (go_at_call 16; refine (hb _ hg).mono ?_; rintro e w1 ⟨rfl, hb1⟩)
  go_ret2
  exact ⟨rfl, hb1⟩

end Go.Proofs.YtbpcfjoebfbjmaaGreatDoor

/-
  The walks of width's number, usage and folder. Conditions: options in memory, their arguments not long; what the library's variables hold.
-/
namespace Go.Proofs.YtbpcfjoebfbjmaaGreatDoor
open Go.RowKit Go.Shelf Go.Maps

/-- An option's number. -/
def numOpt (L : List OptA) (c : UInt8) (without least most : Int) : Int × Bool := match Op.last L c with
  | none => (without, true)
  | some s => match Ord.number s most with
    | none => (0, false)
    | some v => (v, decide (least ≤ v))
theorem last_len {n : Nat} : ∀ {L : List OptA} {c : UInt8} {s : Bts}, Op.last L c = some s → (∀ o ∈ L, o.2.length ≤ n) → s.length ≤ n := by
  intro L
  induction L with
  | nil => intro c s h _; cases h
  | cons o r ih =>
    intro c s h hl
    unfold Op.last at h
    cases hr : Op.last r c with
    | some x =>
      rw [hr] at h
      simp only [Option.some.injEq] at h
      subst h
      exact ih hr fun o ho => hl o (by simp [ho])
    | none =>
      rw [hr] at h
      simp only at h
      split at h
      · injection h with h; subst h; exact hl o (by simp)
      · cases h

set_option maxRecDepth 100000 in
set_option maxHeartbeats 2000000 in
theorem numOpt_any (L : List OptA) (c : UInt8) (without least most : Int) (hm0 : 0 ≤ most) (hm : most ≤ 2147483647) (p : Option Addr) (cap : Nat) (hcap : L.length ≤ cap) (hN : L.length ≤ 1000000) (hl : ∀ o ∈ L, o.2.length ≤ 1000000) (w : World) (h : OptsAt w p L) (hg : Glo w) :
    Calls Tryz.prog 76 #[.slice p L.length cap, .int .u8 c.toNat, .int .i64 without, .int .i64 least, .int .i64 most] w fun e w' => e = .returned (.tuple #[.int .i64 (numOpt L c without least most).1, .bool (numOpt L c without least most).2]) ∧ Below w.heap.size w w' := by
  have hla := last_any L c p cap hcap hN w h
  have HLEN := Lib.hid (fun s (hs : Op.last L c = some s) => last_len hs hl)
  have HG := Lib.hid hg
  clear h hl hg
  obtain ⟨R, hR⟩ : ∃ R, numOpt L c without least most = R := ⟨_, rfl⟩
  rw [hR]
  unfold numOpt at hR
  cases hop : Op.last L c with
  | none =>
    rw [hop] at hla hR
    simp only [lastV] at hla hR
    subst hR
    clear hop HLEN HG
    go_enter Tryz.func76, Tryz.ntmps76
    go_wp2_with fail
    refine hla.mono ?_
    rintro e w1 ⟨rfl, hb⟩
    clear hla
    go_wp2_with fail
    go_ret2
    exact ⟨rfl, hb⟩
  | some s =>
    have hsl := HLEN.out s hop
    rw [hop] at hla hR
    simp only [lastV, strV] at hla hR
    have hnum := fun w hg => number_any s most (by omega) hm0 hm w hg
    have HNUM := Lib.hid hnum
    have HRR := Lib.hid hR
    clear hop HLEN hnum hR
    go_enter Tryz.func76, Tryz.ntmps76
    go_wp2_with fail
    refine hla.mono ?_
    rintro e w1 ⟨rfl, hb⟩
    clear hla
    have hn := HNUM.out w1 (HG.out.below hb)
    have HB := Lib.hid hb
    clear hb HNUM
    unfold numVal at hn
    cases hv : Ord.number s most with
    | none =>
      rw [hv] at hn
      have hR2 := HRR.out
      rw [hv] at hR2
      simp only at hn hR2
      have HR2 := Lib.hid hR2
      clear hv hR2
      go_wp2_with fail
      refine hn.mono ?_
      rintro e w2 ⟨rfl, hb2⟩
      clear hn
      go_wp2_with fail
      go_ret2
      exact ⟨by rw [← HR2.out]; rfl, HB.out.trans (hb2.mono HB.out.size)⟩
    | some v =>
      rw [hv] at hn
      have hR2 := HRR.out
      rw [hv] at hR2
      simp only at hn hR2
      have HR2 := Lib.hid hR2
      clear hv hR2
      go_wp2_with fail
      refine hn.mono ?_
      rintro e w2 ⟨rfl, hb2⟩
      clear hn
      cases hle : decide (least ≤ v) with
      | true =>
        have HLE := Lib.hid hle
        go_wp2_with fail
        go_ret2
        exact ⟨by rw [← HR2.out, HLE.out]; rfl, HB.out.trans (hb2.mono HB.out.size)⟩
      | false =>
        have HLE := Lib.hid hle
        go_wp2_with fail
        go_ret2
        exact ⟨by rw [← HR2.out, HLE.out]; rfl, HB.out.trans (hb2.mono HB.out.size)⟩

set_option maxRecDepth 100000 in
theorem folder_any (b sp : Bool) (wd : Nat) (w : World) :
    Calls Tryz.prog 79 #[.bool b, .bool sp, .int .i64 wd] w fun e w' => e = .returned (.func (.func 125) #[] #[.pointer (some ⟨w.heap.size, 0, none⟩), .pointer (some ⟨w.heap.size + 2, 0, none⟩), .pointer (some ⟨w.heap.size + 1, 0, none⟩)]) ∧ FoldSt w.heap.size (w.heap.size + 2) (w.heap.size + 1) b sp wd () w' ∧ Below w.heap.size w w' := by
  have hmf : ∀ (fn : Fn) (first cap : Array Value) (w : World), (Instr.makeFunc fn first cap).run Tryz.prog w = .ok (.func fn first cap) w := fun _ _ _ _ => rfl
  obtain ⟨w1, hw1⟩ : ∃ w1, ((w.alloc (.cells #[.bool b] 4)).alloc (.cells #[.bool sp] 4)).alloc (.cells #[.int .i64 (wd : Int)] 3) = w1 := ⟨_, rfl⟩
  have hb : Below w.heap.size w w1 := by rw [← hw1]; exact (((Below.refl _ _).alloc (Nat.le_refl _) _).alloc (by simp) _).alloc (by simp; omega) _
  have hst : FoldSt w.heap.size (w.heap.size + 2) (w.heap.size + 1) b sp wd () w1 := by
    rw [← hw1]
    refine ⟨((Blk.new w #[.bool b] 4).alloc _).alloc _, ?_, ?_⟩
    · have := Blk.new ((w.alloc (.cells #[.bool b] 4)).alloc (.cells #[.bool sp] 4)) #[.int .i64 (wd : Int)] 3
      simpa only [World.size_alloc] using this
    · have := (Blk.new (w.alloc (.cells #[.bool b] 4)) #[.bool sp] 4).alloc (.cells #[.int .i64 (wd : Int)] 3)
      simpa only [World.size_alloc] using this
  have HB := Lib.hid hb
  have HST := Lib.hid hst
  clear hb hst
  go_enter Tryz.func79, Tryz.ntmps79
  go_wp2_with fail
  try rw [hw1]
  go_ret
  exact ⟨rfl, HST.out, HB.out⟩

end Go.Proofs.YtbpcfjoebfbjmaaGreatDoor

/-
  The walk of width's fold. Conditions: its options are read, no operands; bytes by which a column goes on by one; lengths.
-/
namespace Go.Proofs.YtbpcfjoebfbjmaaGreatDoor
open Go.RowKit Go.Shelf Go.Maps

/-- What a utility of this package hands back. -/
def MainPost (F : Fx) (M : Nat → Prop) (a0 : Bts) (r : Bts × Bool) (w : World) (e : Ending) (w' : World) : Prop :=
  ∃ inp' M', e = .returned (.int .i64 (if r.2 then 0 else 1)) ∧ PrAt w' F M' inp' r.1 (if r.2 then [] else diagOf a0 [45] 18) ∧ Mv M M' w w'

set_option maxRecDepth 100000 in
set_option maxHeartbeats 8000000 in
theorem fold_any (F : Fx) (M : Nat → Prop) (inp a0 : Bts) (rest : List Bts) (ha : F.args = a0 :: rest) (hrest : rest ≠ []) (htot : totL rest ≤ 1000000) (ha0 : a0.length ≤ 1000000) (L : List OptA) (hp : Op.parse [98, 115, 119, 58] rest = some (L, [])) (hLN : L.length ≤ 1000000) (hLl : ∀ o ∈ L, o.2.length ≤ 1000000)
    (wd : Nat) (hwd : numOpt L 119 80 1 2147483647 = ((wd : Int), true)) (h1 : 1 ≤ wd) (h2 : wd ≤ 2147483647) (hg : Glo F.w0) (hok : ∀ c ∈ inp, Moves (Op.has L 98) c) (hbig : (Wi.runs (Wi.still (Wi.fold (Op.has L 115) wd)) F.line () inp).1.length ≤ 4294967296) (w : World) (h : PrAt w F M inp [] []) :
    Calls Tryz.prog 48 #[.pointer (some ⟨F.p, 0, none⟩)] w fun e w' => MainPost F M a0 (Wi.runs (Wi.still (Wi.fold (Op.has L 115) wd)) F.line () inp) w e w' := by
  have hargs := args_any F M inp [] [] w h
  rw [ha] at hargs
  have hgw : Glo w := hg.from h.fix.old
  generalize hR : Wi.runs (Wi.still (Wi.fold (Op.has L 115) wd)) F.line () inp = R at *
  have H := Lib.hid h
  have HG := Lib.hid hgw
  have HR := Lib.hid hR
  have HP := Lib.hid hp
  have HOK := Lib.hid hok
  have HWD := Lib.hid hwd
  have HLL := Lib.hid hLl
  have hr1 : 1 ≤ rest.length := List.length_pos_iff.2 hrest
  clear h hg hgw hR hp hok hwd hLl hrest
  go_enter Tryz.func48, Tryz.ntmps48
  go_wp2_with fail
  refine hargs.mono ?_
  rintro e w1 ⟨v, rfl, ho1, hb1⟩
  clear hargs
  obtain ⟨g, c, rfl, hcl, -, hgl, hc⟩ := strs_cell ho1 0 (by simp)
  have hss : Ss w1 (some ⟨g, 1, none⟩) rest := fun _ => ⟨g, 1, rfl, fun i hi => by
    have := hc (i + 1) (by simp; omega)
    rw [Nat.add_comm 1 i, this]
    simp⟩
  simp only [List.length_cons] at hcl
  have hpa := parse_any [98, 115, 119, 58] (by decide) rest (some ⟨g, 1, none⟩) (c - 1) (by omega) htot w1 hss
  rw [HP.out] at hpa
  have f1 : (1 : Int) ≤ c := by omega
  have f2 : 1 ≤ c := by omega
  have f3 : ¬ c - 1 = 0 := by omega
  have f4 : ¬ c = 1 := by omega
  have f5 : ¬ c ≤ 1 := by omega
  have HB1 := Lib.hid hb1
  clear ho1 hb1 hc hss
  go_wp2_with fail
  refine hpa.mono ?_
  rintro e w2 ⟨hb2, lv, ov, rfl, hl2, ho2⟩
  obtain ⟨pl, cl, rfl, hlc, hat⟩ := hl2.at_
  obtain ⟨po, co, hov⟩ := strs_shape ho2
  simp only [List.length_nil] at hov
  subst hov
  have hgl2 : Glo w2 := (HG.out.below HB1.out).below hb2
  have hnum : Calls Tryz.prog 76 #[.slice pl L.length cl, .int .u8 119, .int .i64 80, .int .i64 1, .int .i64 2147483647] w2 fun e w' => e = .returned (.tuple #[.int .i64 (numOpt L 119 80 1 2147483647).1, .bool (numOpt L 119 80 1 2147483647).2]) ∧ Below w2.heap.size w2 w' :=
    numOpt_any L 119 80 1 2147483647 (by decide) (by decide) pl cl hlc hLN HLL.out w2 hat hgl2
  rw [HWD.out] at hnum
  have HB2 := Lib.hid hb2
  have HAT := Lib.hid hat
  clear hpa hb2 hl2 ho2 hat hgl2 f1 f2 f3 f4 f5
  go_wp2_with fail
  refine hnum.mono ?_
  rintro e w3 ⟨rfl, hb3⟩
  clear hnum
  have hat3 := HAT.out.below hb3
  have hhb : Calls Tryz.prog 80 #[.slice pl L.length cl, .int .u8 98] w3 fun e w' => e = .returned (.bool (Op.has L 98)) ∧ Below w3.heap.size w3 w' := hasOpt_any L 98 pl cl hlc hLN w3 hat3
  obtain ⟨b, hb⟩ : ∃ b, Op.has L 98 = b := ⟨_, rfl⟩
  obtain ⟨sp, hsp⟩ : ∃ sp, Op.has L 115 = sp := ⟨_, rfl⟩
  have hok := HOK.out
  have hR := HR.out
  rw [hb] at hhb hok
  rw [hsp] at hR
  have HSP := Lib.hid hsp
  have HOK2 := Lib.hid hok
  have HR2 := Lib.hid hR
  have HB3 := Lib.hid hb3
  have HAT3 := Lib.hid hat3
  clear hb hsp hok hR HOK HR hb3 hat3
  go_wp2_with fail
  refine hhb.mono ?_
  rintro e w4 ⟨rfl, hb4⟩
  clear hhb
  have hhs : Calls Tryz.prog 80 #[.slice pl L.length cl, .int .u8 115] w4 fun e w' => e = .returned (.bool (Op.has L 115)) ∧ Below w4.heap.size w4 w' := hasOpt_any L 115 pl cl hlc hLN w4 (HAT3.out.below hb4)
  rw [HSP.out] at hhs
  have HB4 := Lib.hid hb4
  clear hb4
  go_wp2_with fail
  refine hhs.mono ?_
  rintro e w5 ⟨rfl, hb5⟩
  clear hhs
  have hfo := folder_any b sp wd w5
  have HB5 := Lib.hid hb5
  clear hb5
  go_wp2_with fail
  refine hfo.mono ?_
  rintro e w6 ⟨rfl, hst6, hb6⟩
  clear hfo
  have hbt : Below w.heap.size w w5 := by
    have a1 := HB1.out
    have a2 := a1.trans (HB2.out.mono a1.size)
    have a3 := a2.trans (HB3.out.mono a2.size)
    have a4 := a3.trans (HB4.out.mono a3.size)
    exact a4.trans (HB5.out.mono a4.size)
  have hbw : Below w.heap.size w w6 := hbt.trans (hb6.mono hbt.size)
  have hpr6 := H.out.below hbw
  have hent : ∀ (args : Array Value) (w : World), (callFunc 125 args).run Tryz.prog w = .ok (.enter 125 args) w := enters_of Tryz.func125 (by kernel_rfl) rfl
  have hrn := runs_any 125 hent _ _ _ _ _ _ F (fold_filt w5.heap.size (w5.heap.size + 2) (w5.heap.size + 1) b sp wd h1 (by omega)) M inp [] [] a0 rest ha ha0 (by simp) () po co w6 hpr6 hst6 (fun j hj => by
    have := H.out.n0
    have := hbt.size
    refine ⟨by omega, fun hm => ?_⟩
    have := H.out.lt j hm
    omega) HOK2.out (by rw [HR2.out, List.nil_append]; exact hbig)
  rw [HR2.out] at hrn
  have HBW := Lib.hid hbw
  have HBT := Lib.hid hbt
  clear hst6 hb6 hbt hbw hpr6 hent
  go_wp2_with fail
  refine hrn.mono ?_
  rintro e w7 ⟨inp', M', rfl, hp7, hk7, hm7⟩
  clear hrn
  have hfin : MainPost F M a0 R w (.returned (.int .i64 (if R.2 then 0 else 1))) w7 := by
    refine ⟨inp', M', rfl, by simpa using hp7, ⟨(Kept.of_below HBW.out).trans' hk7 fun k hk e => ?_, fun j hj => ?_⟩⟩
    · have := HBT.out.size
      rcases e with e | e
      · exact e
      · omega
    · rcases hm7 j hj with e | e
      · exact .inl e
      · have := HBW.out.size; exact .inr (by omega)
  generalize (if R.2 then (0 : Int) else 1) = st at *
  have HFIN := Lib.hid hfin
  clear hp7 hk7 hm7 hfin
  go_wp2_with fail
  go_ret
  exact HFIN.out

end Go.Proofs.YtbpcfjoebfbjmaaGreatDoor

/-
  The walk of maps.Keys' iterator over an empty map. Condition: the map is empty.
-/
namespace Go.Proofs.YtbpcfjoebfbjmaaGreatDoor
open Go.RowKit Go.Shelf Go.Maps

/-- A range over an empty map: it begins, and has no entry. -/
theorem range_empty (w : World) (a : Nat) (ha : w.heap[a]? = some (.map #[] 0)) : (Instr.range 174 (.map (some a))).run Tryz.prog w = .ok (.pointer (some ⟨w.heap.size, 0, none⟩)) (w.alloc (.mapIter (some a) 0 #[] 0)) :=
  run_range_map w _ _ _ a #[] 0 Tryz.underlying174 ha
theorem next_empty (w : World) (ty : TypeId) (a r : Nat) (hr : w.heap[r]? = some (.mapIter (some a) 0 #[] 0)) (ha : w.heap[a]? = some (.map #[] 0)) : (Instr.next (.pointer (some ⟨r, 0, none⟩)) false ty).run Tryz.prog w = .ok (.tuple #[.bool false]) w := by
  rcases run_next_at (P := Tryz.prog) w ty r a 0 0 #[] #[] 0 hr ha (by simp) (Nat.le_refl _) with h | ⟨e, he, -⟩
  · exact h.2
  · simp [leftOf] at he

set_option maxRecDepth 100000 in
set_option maxHeartbeats 2000000 in
theorem keys1_calls (l Bn a : Nat) (W : World) (hB : W.cell? ⟨Bn, 0, none⟩ = some (.map (some a))) (ha : W.heap[a]? = some (.map #[] 0)) :
    Calls Tryz.prog 196 #[.func (.yield l) #[] #[], .pointer (some ⟨Bn, 0, none⟩)] W fun e W' => (∃ v, e = .returned v) ∧ W' = W.alloc (.mapIter (some a) 0 #[] 0) := by
  have hr := range_empty W a ha
  obtain ⟨w1, hw1⟩ : ∃ w1, W.alloc (.mapIter (some a) 0 #[] 0) = w1 := ⟨_, rfl⟩
  have hn : ∀ ty, (Instr.next (.pointer (some ⟨W.heap.size, 0, none⟩)) false ty).run Tryz.prog w1 = .ok (.tuple #[.bool false]) w1 := fun ty => next_empty w1 ty a W.heap.size (by rw [← hw1]; exact heap_alloc_new W _) (by rw [← hw1, heap_alloc_old W _ (lt_of_heap ha)]; exact ha)
  rw [hw1] at hr ⊢
  clear hw1
  go_enter Tryz.func196, Tryz.ntmps196
  go_wp2_with fail
  go_loopw [3] (fun _x3 wr => wr = w1) (fun _ _ => 0)
  case atStart => rfl
  case round =>
    obtain rfl := hrel
    go_wp2_with fail
    go_end0
    exact ⟨⟨_, rfl⟩, rfl⟩

end Go.Proofs.YtbpcfjoebfbjmaaGreatDoor

/-
  The walks of slices.AppendSeq, Collect, Sorted over the keys of an empty map; of a directory's sorted names, of which there are none.
-/
namespace Go.Proofs.YtbpcfjoebfbjmaaGreatDoor
open Go.RowKit Go.Shelf Go.Maps
attribute [local go_sem] Oper.semAt_some

/-- The iterator's contract: no round. -/
theorem keys1_stops (k n₀ Bn a : Nat) (w : World) (hB : w.cell? ⟨Bn, 0, none⟩ = some (.map (some a))) (ha : w.heap[a]? = some (.map #[] 0)) :
    SeqStopsK Fence.wide k Tryz.prog 196 #[.pointer (some ⟨Bn, 0, none⟩)] (fun v : ByteArray => #[Value.string v]) (Below n₀) (fun xs => xs = []) (fun _ => False) 0 w := by
  intro l J Jx W hW hJ _ _ h0
  have hl1 : Bn < w.heap.size := World.block_lt_of_cell? _ _ hB
  refine callsIn_wide.2 ((keys1_calls l Bn a W ((hW.cell (p := ⟨Bn, 0, none⟩) hl1).trans hB) ((hW.block a (lt_of_heap ha)).trans ha)).mono ?_)
  rintro e W' ⟨he, rfl⟩
  exact ⟨he, .inl ⟨[], rfl, hJ _ _ _ none h0 (World.grownBy_alloc _ _ none) (fun r e => by cases e)⟩⟩

set_option maxRecDepth 100000 in
set_option maxHeartbeats 2000000 in
theorem appendSeq_none (Bn a : Nat) (w : World) (hB : w.cell? ⟨Bn, 0, none⟩ = some (.map (some a))) (ha : w.heap[a]? = some (.map #[] 0)) :
    Calls Tryz.prog 228 #[.slice none 0 0, .func (.func 196) #[] #[.pointer (some ⟨Bn, 0, none⟩)]] w fun e w' => e = .returned (.slice none 0 0) ∧ Below w.heap.size w w' := by
  refine callsIn_wide.1 (callsIn_of_wp_marks (n := 2) Tryz.func228 rfl trivial ?_ rfl)
  simp only [Tryz.ntmps228, List.size_toArray, List.length_cons, List.length_nil, Nat.reduceAdd, Nat.reduceSub, Array.replicate_succ, Array.replicate_zero, List.push_toArray, List.append_toArray, List.nil_append, List.cons_append]
  gi_wp2
  have hx0 := one_new w (.slice none 0 0) 27
  have hB0 : Below w.heap.size w (w.alloc (.cells #[.slice none 0 0] 27)) := (Below.refl _ w).alloc (Nat.le_refl _) _
  have aB := (hB0.cell (p := ⟨Bn, 0, none⟩) (World.block_lt_of_cell? _ _ hB)).trans hB
  have aa := (hB0.block a (lt_of_heap ha)).trans ha
  refine wpIn_rangeFunc_ownF rfl (by decide) (gf := 196) (lb := #[.pointer (some ⟨Bn, 0, none⟩)]) rfl trivial (enters_of Tryz.func196 (by kernel_rfl) rfl)
    (keys1_stops 1 w.heap.size Bn a _ aB aa) belowK_t (belowK_b (by simp)) (Below.refl _ _) (fun _ => rfl)
    (fun pre W => (W.cell? ⟨w.heap.size, 0, none⟩ = some (.slice none 0 0)) ∧ Below w.heap.size w W)
    (fun _ _ _ => False)
    (OwnFrom.and (Own.from (fun s A B row hs hg hr => cell_kept hs hg hr) _) (ownFrom_below (Nat.le_refl _) (by simp)))
    (fun _ _ _ _ _ hs _ _ => hs)
    ⟨hx0.1, hB0⟩
    (fun v => { tmps := #[.slice none 0 0, .func (.func 196) #[] #[.pointer (some ⟨Bn, 0, none⟩)], .pointer (some ⟨w.heap.size, 0, none⟩), undef, .slice none 0 0, .string v, .func (.func 196) #[] #[.pointer (some ⟨Bn, 0, none⟩)], .string v, undef, undef, undef, undef, undef], defers := [] }) ?assign ?body ?done ?stop
  case assign =>
    intro l v W K hK
    gi_wp2
    exact hK
  case body =>
    intro l pre v W _ hl
    exact absurd hl (Nat.not_lt_zero _)
  case done =>
    rintro D ys W hD rfl ⟨c0, hB⟩ hK
    gi_wp2
    refine ⟨by simp, .inl ⟨_, _, rfl, run_takeDeferred hK, ?_⟩⟩
    refine ⟨.slice none 0 0, ?_, rfl, hB.trans (belowK_b (w := w) (Nat.le_refl _) _ D _ _ (by simp at hD; omega) hK rfl rfl)⟩
    simp [results, Tryz.results228, go_sem]
  case stop =>
    rintro D c pre W _ h _ _
    exact h.elim

end Go.Proofs.YtbpcfjoebfbjmaaGreatDoor
