/-
  Texts of this seat put together: O6, C6, C9.
-/
import Derived.Test.YtjdcjdclipbjhaaGreatDoorQ17
import Derived.Test.YtjdcjdclipbjhaaGreatDoorQ15
import Derived.Lib.SmallJoins
import Derived.Test.YtjdcjdclipbjhaaGreatDoorQ8
import Derived.Test.YtjdcjdclipbjhaaGreatDoorQ11

/-
  The walk of opt.Last over slices.Backward. Condition: the options lie in memory.
-/
namespace Go.Proofs.YtjdcjdclipbjhaaGreatDoor
open Go.RowKit Go.Shelf Go.Maps
attribute [local go_sem] Oper.semAt_some

theorem last_app (A B : List OptA) (c : UInt8) : Op.last (A ++ B) c = match Op.last B c with | some y => some y | none => Op.last A c := by
  induction A with
  | nil => simp only [List.nil_append, Op.last]; cases Op.last B c <;> rfl
  | cons x r ih =>
    rw [List.cons_append, Op.last, ih]
    cases Op.last B c with
    | none => rfl
    | some y => rfl
theorem last_none (L : List OptA) (c : UInt8) (h : ∀ x ∈ L, x.1 ≠ c) : Op.last L c = none := by
  induction L with
  | nil => rfl
  | cons x r ih =>
    rw [Op.last, ih fun y hy => h y (by simp [hy]), if_neg (h x (by simp))]
theorem fromEnd_mem {L : List OptA} {i : Nat} (hi : i < L.length) {k : Nat} (hk : L.length - 1 - i < k) : ∃ y ∈ upto (fromEnd L) k, y.2 = L[i] := by
  refine ⟨fromEnd L (L.length - 1 - i), List.mem_map.2 ⟨_, List.mem_range.2 hk, rfl⟩, ?_⟩
  unfold fromEnd
  have e : L.length - 1 - (L.length - 1 - i) = i := by omega
  simp only [e]
  simp [List.getD_eq_getElem?_getD, List.getElem?_eq_getElem hi]
theorem last_done {L : List OptA} {c : UInt8} (h : ∀ y ∈ upto (fromEnd L) L.length, y.2.1 ≠ c) : Op.last L c = none := by
  refine last_none L c fun x hx => ?_
  obtain ⟨i, hi, rfl⟩ := List.getElem_of_mem hx
  obtain ⟨y, hy, e⟩ := fromEnd_mem hi (k := L.length) (by omega)
  rw [← e]
  exact h y hy
theorem last_stop {L : List OptA} {c : UInt8} {k : Nat} (hk : k < L.length) (h : ∀ y ∈ upto (fromEnd L) k, y.2.1 ≠ c) (hx : (fromEnd L k).2.1 = c) : Op.last L c = some (fromEnd L k).2.2 := by
  have hm : L.length - 1 - k < L.length := by omega
  have e : L = L.take (L.length - 1 - k) ++ L[L.length - 1 - k] :: L.drop (L.length - 1 - k + 1) := by
    rw [← List.drop_eq_getElem_cons hm, List.take_append_drop]
  have ex : (fromEnd L k).2 = L[L.length - 1 - k] := by
    unfold fromEnd
    simp [List.getD_eq_getElem?_getD, List.getElem?_eq_getElem hm]
  have hr : Op.last (L.drop (L.length - 1 - k + 1)) c = none := by
    refine last_none _ c fun x hx => ?_
    obtain ⟨i, hi, rfl⟩ := List.getElem_of_mem hx
    rw [List.getElem_drop]
    simp at hi
    obtain ⟨y, hy, e⟩ := fromEnd_mem (L := L) (i := L.length - 1 - k + 1 + i) (by omega) (k := k) (by omega)
    rw [← e]
    exact h y hy
  rw [ex] at hx ⊢
  conv => lhs; rw [e]
  rw [last_app, Op.last, hr]
  simp only [if_pos hx]

theorem back_stops (F : Fence) (n : Nat) (hF : F.fn 216) (hro : F.round = none) (hn : 1 ≤ n) (Bs : Nat) (L : List OptA) (p : Option Addr) (cap : Nat) (hcap : L.length ≤ cap) (hN : L.length ≤ 1000000) (w : World) (hBs : w.cell? ⟨Bs, 0, none⟩ = some (.slice p L.length cap)) (hO : OptsAt w p L) :
    SeqStopsK F n Tryz.prog 216 #[.pointer (some ⟨Bs, 0, none⟩)] encO (Below w.heap.size) (fun ys => ys = upto (fromEnd L) L.length) (fun pre => ∃ k, k ≤ L.length ∧ pre = upto (fromEnd L) k) L.length w := fun l J Jx W hW _ _ hY h0 =>
  back1_in F n hF hro hn l Bs w.heap.size L p cap hcap hN J Jx hY w W hW rfl ((hW.cell (p := ⟨Bs, 0, none⟩) (World.block_lt_of_cell? _ _ hBs)).trans hBs) (World.block_lt_of_cell? _ _ hBs) hO h0

theorem backward_any (v : Value) (p : Option Addr) (n c : Nat) (hv : v = .slice p n c) (w : World) : Calls Tryz.prog 162 #[v] w fun e w' => e = .returned (.func (.func 216) #[] #[.pointer (some ⟨w.heap.size, 0, none⟩)]) ∧ w' = w.alloc (.cells #[v] 206) := by
  subst hv
  have hmf : ∀ (fn : Fn) (first cap : Array Value) (w : World), (Instr.makeFunc fn first cap).run Tryz.prog w = .ok (.func fn first cap) w := fun _ _ _ _ => rfl
  go_enter Tryz.func162, Tryz.ntmps162
  go_wp2_with fail
  go_ret
  exact ⟨rfl, rfl⟩

theorem boxed_step {A B : World} {row : Option Nat} {q : Nat} {t : TypeId} {v : Value} (h : Boxed A q t v) (hg : A.grownBy B row) (hr : ∀ r, row = some r → ∃ o : Obj, A.heap[r]? = some o ∧ o.isCells = false) : Boxed B q t v :=
  h.kept hg fun e' => by
    obtain ⟨o, ho, hc⟩ := hr q e'.symm
    rw [show A.heap[q]? = _ from h] at ho; cases ho; cases hc
theorem blk_step {A B : World} {row : Option Nat} {q : Nat} {t : TypeId} {cs : Array Value} (h : Blk A q cs t) (hg : A.grownBy B row) (hr : ∀ r, row = some r → ∃ o : Obj, A.heap[r]? = some o ∧ o.isCells = false) : Blk B q cs t :=
  (hg.block q h.lt fun e' => by
    obtain ⟨o, ho, hc⟩ := hr q e'.symm
    rw [show A.heap[q]? = _ from h] at ho; cases ho; cases hc).trans h

/-- What Last hands back. -/
def lastV (r : Option Bts) : Value := match r with
  | none => .tuple #[.string ⟨#[]⟩, .bool false]
  | some s => .tuple #[strV s, .bool true]

set_option maxRecDepth 100000 in
set_option maxHeartbeats 4000000 in
theorem last_any (L : List OptA) (c : UInt8) (p : Option Addr) (cap : Nat) (hcap : L.length ≤ cap) (hN : L.length ≤ 1000000) (w : World) (h : OptsAt w p L) :
    Calls Tryz.prog 102 #[.slice p L.length cap, .int .u8 c.toNat] w fun e w' => e = .returned (lastV (Op.last L c)) ∧ Below w.heap.size w w' := by
  refine callsIn_wide.1 (callsIn_of_wp_marks (n := 3) Tryz.func102 rfl trivial ?_ rfl)
  simp only [Tryz.ntmps102, List.size_toArray, List.length_cons, List.length_nil, Nat.reduceAdd, Nat.reduceSub, Array.replicate_succ, Array.replicate_zero, List.push_toArray, List.append_toArray, List.nil_append, List.cons_append]
  gi_wp2_with (refine ⟨trivial, ?_⟩; gi_at_call 162; refine (callsIn_wide.2 (backward_any _ p L.length cap rfl _)).mono ?_; rintro e w' ⟨rfl, rfl⟩)
  obtain ⟨W0, hW0⟩ : ∃ W0, (((w.alloc (.cells #[.int .u8 c.toNat] 5)).alloc (.cells #[.string ⟨#[]⟩] 9)).alloc (.cells #[.bool false] 4)).alloc (.cells #[.slice p L.length cap] 206) = W0 := ⟨_, rfl⟩
  have hsz : W0.heap.size = w.heap.size + 4 := by rw [← hW0]; simp
  have hB0 : Below w.heap.size w W0 := by rw [← hW0]; exact ((((Below.refl _ w).alloc (Nat.le_refl _) _).alloc (by simp) _).alloc (by simp; omega) _).alloc (by simp; omega) _
  have k3 : Boxed W0 w.heap.size 5 (.int .u8 c.toNat) := by rw [← hW0]; exact (((Boxed.new w _ _).alloc _).alloc _).alloc _
  have k4 : Boxed W0 (w.heap.size + 1) 9 (.string ⟨#[]⟩) := by
    rw [← hW0]
    have := Boxed.new (w.alloc (.cells #[.int .u8 c.toNat] 5)) 9 (.string ⟨#[]⟩)
    rw [World.size_alloc] at this
    exact (this.alloc _).alloc _
  have k5 : Boxed W0 (w.heap.size + 1 + 1) 4 (.bool false) := by
    rw [← hW0]
    have := Boxed.new ((w.alloc (.cells #[.int .u8 c.toNat] 5)).alloc (.cells #[.string ⟨#[]⟩] 9)) 4 (.bool false)
    simp only [World.size_alloc] at this
    exact this.alloc _
  have k6 : W0.cell? ⟨w.heap.size + 1 + 1 + 1, 0, none⟩ = some (.slice p L.length cap) := by
    rw [← hW0]
    have := (Boxed.new (((w.alloc (.cells #[.int .u8 c.toNat] 5)).alloc (.cells #[.string ⟨#[]⟩] 9)).alloc (.cells #[.bool false] 4)) 206 (.slice p L.length cap)).cell
    simp only [World.size_alloc] at this
    exact this
  have hO0 := h.below hB0
  rw [hW0]
  clear hW0 h
  refine wpIn_rangeFunc_ownH rfl (by decide) (gf := 216) (lb := #[.pointer (some ⟨w.heap.size + 1 + 1 + 1, 0, none⟩)]) rfl trivial (enters_of Tryz.func216 (by kernel_rfl) rfl)
    (back_stops Fence.wide 2 trivial rfl (by decide) (w.heap.size + 1 + 1 + 1) L p cap hcap hN W0 k6 hO0) belowK_t (belowK_b (Nat.le_refl _)) (Below.refl _ _) (fun _ => rfl)
    (fun pre W => ((∀ y ∈ pre, y.2.1 ≠ c) ∧ Boxed W w.heap.size 5 (.int .u8 c.toNat) ∧ Boxed W (w.heap.size + 1) 9 (.string ⟨#[]⟩) ∧ Boxed W (w.heap.size + 1 + 1) 4 (.bool false)) ∧ Below W0.heap.size W0 W)
    (fun cd pre W => (cd = .ret ∧ ∃ pre0 x, pre = pre0 ++ [x] ∧ (∀ y ∈ pre0, y.2.1 ≠ c) ∧ x.2.1 = c ∧ Boxed W (w.heap.size + 1) 9 (strV x.2.2) ∧ Boxed W (w.heap.size + 1 + 1) 4 (.bool true)) ∧ Below w.heap.size w W)
    (OwnFrom.and (Own.from (fun s A B row hs hg hr => ⟨hs.1, boxed_step hs.2.1 hg hr, boxed_step hs.2.2.1 hg hr, boxed_step hs.2.2.2 hg hr⟩) _) (ownFrom_below (Nat.le_refl _) (Nat.le_refl _)))
    (fun cd => OwnFrom.and (Own.from (fun s A B row hs hg hr => by
      obtain ⟨e, pre0, x, e2, h1, h2, h3, h4⟩ := hs
      exact ⟨e, pre0, x, e2, h1, h2, boxed_step h3 hg hr, boxed_step h4 hg hr⟩) _) (ownFrom_below (Nat.le_refl _) (by omega)))
    ⟨⟨by simp, k3, k4, k5⟩, Below.refl _ _⟩
    (fun x a' W => ∃ Bx, W0.heap.size ≤ Bx ∧ Blk W Bx #[.int .u8 x.2.1.toNat, strV x.2.2] 280 ∧ a' = { tmps := #[.slice p L.length cap, .int .u8 c.toNat, undef, .pointer (some ⟨w.heap.size, 0, none⟩), .pointer (some ⟨w.heap.size + 1, 0, none⟩), .pointer (some ⟨w.heap.size + 1 + 1, 0, none⟩), undef, .pointer (some ⟨Bx, 0, none⟩), .slice p L.length cap, .func (.func 216) #[] #[.pointer (some ⟨w.heap.size + 1 + 1 + 1, 0, none⟩)], .int .i64 x.1, .agg #[.int .u8 x.2.1.toNat, strV x.2.2], undef, undef, undef, undef, undef, undef], defers := [] })
    (fun x a' s A B row hs hg hr => by
      obtain ⟨Bx, h1, h2, h3⟩ := hs
      exact ⟨Bx, h1, blk_step h2 hg (fun r e => (hr r e).2), h3⟩) ?assign ?body ?done ?stop
  case assign =>
    rintro l pre x W K ⟨⟨hp, hb3, hb4, hb5⟩, hB⟩ hK
    unfold strV at *
    unfold encO strV
    gi_wp2
    exact hK _ _ ((KeepsOthers.alloc _ _).from _) ((Below.refl _ W).alloc hB.size _) ⟨⟨hp, hb3.alloc _, hb4.alloc _, hb5.alloc _⟩, hB.alloc hB.size _⟩ ⟨W.heap.size, hB.size, Blk.new _ _ _, rfl⟩
  case body =>
    rintro l pre x a' W hl ⟨r, hr⟩ ⟨⟨hp, hb3, hb4, hb5⟩, hB⟩ ⟨Bx, hBx, bX, rfl⟩ hlt
    have c3 := hb3.cell
    have c4 := hb4.cell
    have f4 := hb4.frozen
    have c5 := hb5.cell
    have f5 := hb5.frozen
    have x0 := bX.cell 0 (v := .int .u8 x.2.1.toNat) rfl
    have x1 := bX.cell 1 (v := strV x.2.2) rfl
    unfold strV at *
    by_cases hx : x.2.1 = c
    · have e1 : ((x.2.1.toNat : Int) == (c.toNat : Int)) = true := by rw [hx]; simp
      have hx2 := Lib.hid hx
      clear hx
      gi_wp2
      refine ⟨((KeepsOthers.setCell _ _ _).trans (KeepsOthers.setCell _ _ _)).from _, ⟨rfl, pre, x, rfl, hp, hx2.out, ?_, ?_⟩, (hB0.trans (hB.mono (by omega))).setCell (p := ⟨w.heap.size + 1, 0, none⟩) (by simp) _ |>.setCell (p := ⟨w.heap.size + 1 + 1, 0, none⟩) (by simp; omega) _⟩
      · exact (Boxed.set _ hb4).other (by omega) _
      · exact Boxed.set _ (hb5.other (by omega) _)
    · have e1 : ((x.2.1.toNat : Int) == (c.toNat : Int)) = false := by
        rw [← u8_beq]; simpa using hx
      have hx2 := Lib.hid hx
      clear hx
      gi_wp2
      exact ⟨(KeepsOthers.refl _).from _, Below.refl _ _, ⟨fun y hy => (List.mem_append.1 hy).elim (hp y) (fun e => by simp at e; subst e; exact hx2.out), hb3, hb4, hb5⟩, hB⟩
  case done =>
    rintro D ys W hD rfl ⟨⟨hp, hb3, hb4, hb5⟩, hB⟩ hK
    have hv : lastV (Op.last L c) = .tuple #[.string ⟨#[]⟩, .bool false] := by rw [last_done hp]; rfl
    have HV := Lib.hid hv
    have c4 := hb4.cell
    have f4 := hb4.frozen
    have c5 := hb5.cell
    have f5 := hb5.frozen
    clear hp hv
    gi_wp2
    have hK1 := (KeepsOthers.setCell W ⟨w.heap.size + 1, 0, none⟩ (.string ⟨#[]⟩)).same D _ hK rfl
    have hK2 := (KeepsOthers.setCell _ ⟨w.heap.size + 1 + 1, 0, none⟩ (.bool false)).same D _ hK1 rfl
    refine ⟨by simp, .inl ⟨_, _, rfl, run_takeDeferred hK2, ?_⟩⟩
    have m4 := (Boxed.set (.string ⟨#[]⟩) hb4).other (B' := w.heap.size + 1 + 1) (by omega) (.bool false)
    have m5 := Boxed.set (.bool false) (hb5.other (B' := w.heap.size + 1) (by omega) (.string ⟨#[]⟩))
    have d4 := cell_kept m4.cell (grownBy_putObj' _ D (.deferred none)) (fun r e => by cases e; exact ⟨_, hK2, rfl⟩)
    have d5 := cell_kept m5.cell (grownBy_putObj' _ D (.deferred none)) (fun r e => by cases e; exact ⟨_, hK2, rfl⟩)
    refine ⟨_, ?_, by rw [HV.out], (((hB0.trans (hB.mono (by omega))).setCell (p := ⟨w.heap.size + 1, 0, none⟩) (by simp) _).setCell (p := ⟨w.heap.size + 1 + 1, 0, none⟩) (by simp; omega) _).trans (belowK_b (w := w) (Nat.le_refl _) _ D _ _ (by omega) hK2 rfl rfl)⟩
    simp [results, Tryz.results102, go_sem, d4, d5]
  case stop =>
    rintro D cd pre W hD ⟨k, hk, hpre⟩ ⟨⟨rfl, pre0, x, hpx, hp0, hx, hb4, hb5⟩, hB⟩ hK
    have hk1 : k = pre0.length + 1 := by
      have := congrArg List.length hpre
      rw [hpx, upto_length] at this
      simp at this; omega
    subst hk1
    rw [hpx, upto_succ] at hpre
    obtain ⟨h1, h2⟩ := List.append_inj' hpre rfl
    obtain rfl : x = fromEnd L pre0.length := by injection h2
    have hv : lastV (Op.last L c) = .tuple #[strV (fromEnd L pre0.length).2.2, .bool true] := by rw [last_stop (by omega) (by rw [← h1]; exact hp0) hx]; rfl
    have HV := Lib.hid hv
    clear hpx hx hp0 h1 h2 hv hpre
    gi_wp2
    refine ⟨by simp, .inl ⟨_, _, rfl, run_takeDeferred hK, ?_⟩⟩
    have c4 := cell_kept hb4.cell (grownBy_putObj' _ D (.deferred none)) (fun r e => by cases e; exact ⟨_, hK, rfl⟩)
    have c5 := cell_kept hb5.cell (grownBy_putObj' _ D (.deferred none)) (fun r e => by cases e; exact ⟨_, hK, rfl⟩)
    refine ⟨_, ?_, by rw [HV.out], hB.trans (belowK_b (w := w) (Nat.le_refl _) W D _ _ (by omega) hK rfl rfl)⟩
    simp [results, Tryz.results102, go_sem, c4, c5]

end Go.Proofs.YtjdcjdclipbjhaaGreatDoor

/-
  The walk of what cut is asked. Conditions: one list alone; its sign, if one is given; the list may be.
-/
namespace Go.Proofs.YtjdcjdclipbjhaaGreatDoor
open Go.RowKit Go.Shelf Go.Maps

theorem bs_lit {W : World} {b : Nat} {l : Bts} {t : TypeId} {f : Nat × Nat} (h : W.heap[b]? = some (.cells (l.map u8V).toArray t f)) : Bs W (some ⟨b, 0, none⟩) l := fun _ => ⟨b, 0, rfl, fun i hi => by
  rw [Nat.zero_add, Lib.cell_of_heap h, List.getElem?_toArray, List.getElem?_map, List.getElem?_eq_getElem hi, List.getD_eq_getElem?_getD, List.getElem?_eq_getElem hi]
  rfl⟩

/-- The kinds of lists that are given. -/
def kindGo (L : List OptA) : List UInt8 → Nat × Bts → Nat × Bts
  | [], a => a
  | c :: cs, a => kindGo L cs (match Op.last L c with
    | some y => (a.1 + 1, y)
    | none => a)
def sepV : Option UInt8 → Int
  | none => 9
  | some d => d.toNat

/-- What cut's options must come to. -/
structure AskC (L : List OptA) (fl : Bool) (d : Option UInt8) (l : List Co.Spn) : Prop where
  ex : ∃ S, kindGo L [98, 99, 102] (0, []) = (1, S) ∧ Co.listOf S = some l ∧ S.length < 1073741824
  hn : Op.has L 110 = false
  hs : Op.has L 115 = false
  hf : Op.has L 102 = fl
  hd : Op.last L 100 = d.map fun x => [x]
  fd : d ≠ none → fl = true

def AskPost (fl : Bool) (d : Option UInt8) (l : List Co.Spn) (w : World) (e : Ending) (w' : World) : Prop :=
  ∃ v, e = .returned (.tuple #[.agg #[v, .bool fl, .int .u8 (sepV d), .bool false], .bool true]) ∧ SpansOwn 30 w' w.heap.size v l ∧ Below w.heap.size w w'

set_option maxRecDepth 100000 in
set_option maxHeartbeats 8000000 in
theorem askedC_any (L : List OptA) (fl : Bool) (d : Option UInt8) (l : List Co.Spn) (hA : AskC L fl d l) (p : Option Addr) (cap : Nat) (hcap : L.length ≤ cap) (hN : L.length ≤ 1000000) (w : World) (h : OptsAt w p L) (hg : Glo w) :
    Calls Tryz.prog 90 #[.slice p L.length cap] w fun e w' => AskPost fl d l w e w' := by
  obtain ⟨⟨S, hk, hl, hS⟩, hn, hs, hf, hd, hfd⟩ := hA
  obtain ⟨w1, hw1⟩ : ∃ w1, w.alloc (.cells #[.slice none 0 0, .bool false, .int .u8 0, .bool false] 210) = w1 := ⟨_, rfl⟩
  have hb1 : Below w.heap.size w w1 := by rw [← hw1]; exact (Below.refl _ _).alloc (Nat.le_refl _) _
  have hk1 : Blk w1 w.heap.size #[.slice none 0 0, .bool false, .int .u8 0, .bool false] 210 := by rw [← hw1]; exact Blk.new _ _ _
  have hh1 : Calls Tryz.prog 104 #[.slice p L.length cap, .int .u8 115] w1 fun e w' => e = .returned (.bool (Op.has L 115)) ∧ Below w1.heap.size w1 w' := hasOpt_any L 115 p cap hcap hN w1 (h.below hb1)
  rw [hs] at hh1
  have HW1 := Lib.hid hw1
  have HB1 := Lib.hid hb1
  have HR1 := Lib.hid hk1
  have HO := Lib.hid h
  have HG := Lib.hid hg
  have HF := Lib.hid hf
  have HKI := Lib.hid hk
  have HD := Lib.hid hd
  have HFD := Lib.hid hfd
  have HL := Lib.hid hl
  have HN := Lib.hid hn
  clear hw1 hb1 hk1 h hg hf hk hd hfd hl hn hs
  go_enter Tryz.func90, Tryz.ntmps90
  go_wp2_with fail
  rw [HW1.out]
  refine hh1.mono ?_
  rintro e w2 ⟨rfl, hb2⟩
  have HB2 := Lib.hid (HB1.out.trans (hb2.mono HB1.out.size))
  have HR2 := Lib.hid (HR1.out.keep hb2 HR1.out.lt)
  have hh2 : Calls Tryz.prog 104 #[.slice p L.length cap, .int .u8 102] w2 fun e w' => e = .returned (.bool (Op.has L 102)) ∧ Below w2.heap.size w2 w' := hasOpt_any L 102 p cap hcap hN w2 (HO.out.below HB2.out)
  rw [HF.out] at hh2
  clear hh1 hb2
  go_wp2_with fail
  refine hh2.mono ?_
  rintro e w3 ⟨rfl, hb3⟩
  have HB3 := Lib.hid (HB2.out.trans (hb3.mono HB2.out.size))
  have HR3 := Lib.hid (HR2.out.keep hb3 HR2.out.lt)
  clear hh2 hb3
  go_upto_region 3 with fail
  obtain ⟨w4, hw4⟩ : ∃ w4, w3.alloc (.cells #[.slice none 0 0, .bool fl, .int .u8 9, .bool false] 210) = w4 := ⟨_, rfl⟩
  have HB4 := Lib.hid (show Below w.heap.size w w4 by rw [← hw4]; exact HB3.out.alloc HB3.out.size _)
  have HR4 := Lib.hid (show Blk w4 w.heap.size #[.slice none 0 0, .bool false, .int .u8 0, .bool false] 210 by rw [← hw4]; exact HR3.out.alloc _)
  have HC4 := Lib.hid (show Blk w4 w3.heap.size #[.slice none 0 0, .bool fl, .int .u8 9, .bool false] 210 by rw [← hw4]; exact Blk.new _ _ _)
  have hlt : w.heap.size < w3.heap.size := HR3.out.lt
  rw [hw4]
  generalize w3.heap.size = cb at *
  clear hw4 HB3 HR3 HR2 HR1 HB1 HB2 HW1
  have hcv := Joins.run_convert_bytes_const_at (P := Tryz.prog) w4 33 5 #[.int .u8 98, .int .u8 99, .int .u8 102] 3 3 w4.heap.size rfl Tryz.underlying33 Tryz.underlying5
  obtain ⟨w5, hw5⟩ : ∃ w5, w4.alloc (.cells #[.int .u8 98, .int .u8 99, .int .u8 102] 5 (3, 4)) = w5 := ⟨_, rfl⟩
  have HB5 := Lib.hid (show Below w.heap.size w w5 by rw [← hw5]; exact HB4.out.alloc HB4.out.size _)
  have HR5 := Lib.hid (show Blk w5 w.heap.size #[.slice none 0 0, .bool false, .int .u8 0, .bool false] 210 by rw [← hw5]; exact HR4.out.alloc _)
  have HC5 := Lib.hid (show Blk w5 cb #[.slice none 0 0, .bool fl, .int .u8 9, .bool false] 210 by rw [← hw5]; exact HC4.out.alloc _)
  have HK5 := Lib.hid (show Bs w5 (some ⟨w4.heap.size, 0, none⟩) [98, 99, 102] from bs_lit (l := [98, 99, 102]) (t := 5) (f := (3, 4)) (by rw [← hw5]; exact heap_alloc_new w4 _))
  have HW5 := Lib.hid hw5
  clear hw5
  go_upto_region 4 with fail
  rw [HW5.out]
  clear hcv HR4 HC4 HB4
  generalize w4.heap.size = kb at *
  clear HW5
  go_loopw [5, 6, 8, 9, 10, 22] (fun x5 x6 _ _ _ x22 wr => ∃ (k kk : Nat) (s : Bts), k ≤ 3 ∧ kk ≤ k ∧ x22 = .int .i64 k ∧ x5 = .int .i64 kk ∧ x6 = .string ⟨s.toArray⟩ ∧ Hid (kindGo L (([98, 99, 102] : List UInt8).drop k) (kk, s) = (1, S)) ∧ Hid (Below w5.heap.size w5 wr)) (fun _ _ _ _ _ x22 _ => 3 - (intOf x22).toNat)
  case atStart => exact ⟨0, 0, [], by omega, by omega, rfl, rfl, rfl, HKI, Lib.hid (Below.refl _ _)⟩
  case round =>
    obtain ⟨k, kk, s, hk3, hkk, rfl, rfl, rfl, HGO, HBR⟩ := hrel
    have HB := Lib.hid (HB5.out.trans (HBR.out.mono HB5.out.size))
    by_cases hlt : k < 3
    · obtain ⟨c, hc⟩ : ∃ c, ([98, 99, 102] : List UInt8).getD k 0 = c := ⟨_, rfl⟩
      have hcell := HK5.out.at k (by simpa using hlt)
      rw [hc] at hcell
      have hcl := (HBR.out.cell (p := ⟨kb, 0 + k, none⟩) (World.block_lt_of_cell? _ _ hcell)).trans hcell
      rw [Nat.zero_add] at hcl
      have e1 : decide ((k : Int) < 3) = true := by simp; omega
      have f1 : (0 : Int) ≤ k := by omega
      have f2 : (k : Int) < 3 := by omega
      have hla := last_any L c p cap hcap hN wr (HO.out.below HB.out)
      have hdr : ([98, 99, 102] : List UInt8).drop k = c :: ([98, 99, 102] : List UInt8).drop (k + 1) := by
        rw [← hc]
        rcases (by omega : k = 0 ∨ k = 1 ∨ k = 2) with rfl | rfl | rfl <;> rfl
      have hgo := HGO.out
      rw [hdr] at hgo
      have HGO2 := Lib.hid hgo
      clear hc hcell hdr hgo
      cases hy : Op.last L c with
      | none =>
        rw [hy] at hla
        unfold lastV at hla
        simp only at hla
        have HY := Lib.hid hy
        clear hy
        go_wp2_with fail
        refine hla.mono ?_
        rintro e w6 ⟨rfl, hb6⟩
        clear hla
        have HBR6 := Lib.hid (HBR.out.trans (hb6.mono HBR.out.size))
        clear hb6
        go_wp2_with fail
        go_roundw
        case rel => exact ⟨k + 1, kk, s, by omega, by omega, by go_num, rfl, rfl, Lib.hid (by have := HGO2.out; rw [kindGo, HY.out] at this; exact this), HBR6⟩
        case measure => simp [intOf]; omega
      | some y =>
        rw [hy] at hla
        unfold lastV at hla
        simp only at hla
        have HY := Lib.hid hy
        clear hy
        go_wp2_with fail
        refine hla.mono ?_
        rintro e w6 ⟨rfl, hb6⟩
        clear hla
        have HBR6 := Lib.hid (HBR.out.trans (hb6.mono HBR.out.size))
        clear hb6
        go_wp2_with fail
        go_roundw
        case rel => exact ⟨k + 1, kk + 1, y, by omega, by omega, by go_num, by go_num, rfl, Lib.hid (by have := HGO2.out; rw [kindGo, HY.out] at this; exact this), HBR6⟩
        case measure => simp [intOf]; omega
    · obtain rfl : k = 3 := by omega
      have e1 : decide ((3 : Int) < 3) = false := by decide
      obtain ⟨rfl, rfl⟩ : kk = 1 ∧ s = S := by
        have := HGO.out
        simp only [List.drop_succ_cons, List.drop_nil, kindGo] at this
        exact ⟨congrArg Prod.fst this, congrArg Prod.snd this⟩
      obtain ⟨w6, hw6⟩ : ∃ w6, w6 = wr := ⟨_, rfl⟩
      subst hw6
      have hla : Calls Tryz.prog 102 #[.slice p L.length cap, .int .u8 100] w6 fun e w' => e = .returned (lastV (Op.last L 100)) ∧ Below w6.heap.size w6 w' := last_any L 100 p cap hcap hN w6 (HO.out.below HB.out)
      rw [HD.out] at hla
      have HR6 := Lib.hid (HR5.out.keep HBR.out HR5.out.lt)
      have HC6 := Lib.hid (HC5.out.keep HBR.out HC5.out.lt)
      clear HR5 HC5 HGO HKI
      cases d with
      | none =>
        simp only [Option.map_none, lastV] at hla
        go_wp2_with fail
        refine hla.mono ?_
        rintro e w7 ⟨rfl, hb7⟩
        clear hla
        have HB7 := Lib.hid (HB.out.trans (hb7.mono HB.out.size))
        have HR7 := Lib.hid (HR6.out.keep hb7 HR6.out.lt)
        have HC7 := Lib.hid (HC6.out.keep hb7 HC6.out.lt)
        clear hb7 HR6 HC6
        have hhn : Calls Tryz.prog 104 #[.slice p L.length cap, .int .u8 110] w7 fun e w' => e = .returned (.bool (Op.has L 110)) ∧ Below w7.heap.size w7 w' := hasOpt_any L 110 p cap hcap hN w7 (HO.out.below HB7.out)
        rw [HN.out] at hhn
        go_wp2_with fail
        refine hhn.mono ?_
        rintro e w8 ⟨rfl, hb8⟩
        clear hhn
        have HB8 := Lib.hid (HB7.out.trans (hb8.mono HB7.out.size))
        have HR8 := Lib.hid (HR7.out.keep hb8 HR7.out.lt)
        have HC8 := Lib.hid (HC7.out.keep hb8 HC7.out.lt)
        clear hb8 HR7 HC7
        have x3 := HC8.out.cell 3 (v := .bool false) rfl
        have hli := list_any s hS w8 (HG.out.below HB8.out)
        rw [HL.out] at hli
        go_wp2_with fail
        refine hli.mono ?_
        rintro e v1 ⟨hv1, hv2⟩
        rcases hv2 with ⟨h, -⟩ | ⟨l', v, he, rfl, ho⟩
        · cases h
        obtain rfl := Option.some.inj he
        obtain ⟨pv, cv, rfl⟩ := own_shape ho
        have HBV := Lib.hid (HB8.out.trans (hv1.mono HB8.out.size))
        have hrv := HR8.out.keep hv1 HR8.out.lt
        have hcv := HC8.out.keep hv1 HC8.out.lt
        have c0 := hcv.cell 0 (v := .slice none 0 0) rfl
        have f0 := hcv.free 0
        have hov := own_mono ho (show w.heap.size ≤ w8.heap.size from HB8.out.size)
        have hnb : ∀ g, (Value.slice pv l.length cv).ownBlock = some g → w8.heap.size ≤ g := fun g e => (ho.lt g e).1
        have HC2 := Lib.hid (hcv.set 0 (.slice pv l.length cv))
        have HRV := Lib.hid (hrv.setOther (a := ⟨cb, 0, none⟩) (by show w.heap.size ≠ cb; omega) (.slice pv l.length cv))
        have HOV := Lib.hid hov
        have HNB := Lib.hid hnb
        have hcw : cb < w8.heap.size := HC8.out.lt
        have hww : w.heap.size < w8.heap.size := HR8.out.lt
        have HK := Lib.hid (show Kept (fun j => j = cb) v1 (v1.setCell ⟨cb, 0, none⟩ (.slice pv l.length cv)) from (Kept.refl (fun j => j = cb) v1).setCell (.inl rfl) 0 _)
        clear hli hv1 he ho hrv hcv hov hnb
        go_upto_region 21 with fail
        obtain ⟨v2, hv2⟩ : ∃ v2, v1.setCell ⟨cb, 0, none⟩ (.slice pv l.length cv) = v2 := ⟨_, rfl⟩
        rw [hv2] at HC2 HRV HK
        rw [hv2]
        have d0 := HC2.out.cell 0 (v := .slice pv l.length cv) rfl
        have d1 := HC2.out.cell 1 (v := .bool fl) rfl
        have d2 := HC2.out.cell 2 (v := .int .u8 9) rfl
        have d3 := HC2.out.cell 3 (v := .bool false) rfl
        have r0 := HRV.out.cell 0 (v := .slice none 0 0) rfl
        have r1 := HRV.out.cell 1 (v := .bool false) rfl
        have r2 := HRV.out.cell 2 (v := .int .u8 0) rfl
        have r3 := HRV.out.cell 3 (v := .bool false) rfl
        have g0 := HRV.out.free 0
        have g1 := HRV.out.free 1
        have g2 := HRV.out.free 2
        have g3 := HRV.out.free 3
        clear hv2 c0 f0
        obtain ⟨v3, hv3⟩ : ∃ v3, (((v2.setCell ⟨w.heap.size, 0, none⟩ (.slice pv l.length cv)).setCell ⟨w.heap.size, 1, none⟩ (.bool fl)).setCell ⟨w.heap.size, 2, none⟩ (.int .u8 9)).setCell ⟨w.heap.size, 3, none⟩ (.bool false) = v3 := ⟨_, rfl⟩
        have HR3 := Lib.hid (show Blk v3 w.heap.size #[.slice pv l.length cv, .bool fl, .int .u8 9, .bool false] 210 by rw [← hv3]; exact ((((HRV.out.set 0 _).set 1 _).set 2 _).set 3 _))
        have HK3 := Lib.hid (show Kept (fun j => j = w.heap.size) v2 v3 by rw [← hv3]; exact (((((Kept.refl (fun j => j = w.heap.size) v2).setCell (.inl rfl) 0 _).setCell (.inl rfl) 1 _).setCell (.inl rfl) 2 _).setCell (.inl rfl) 3 _))
        have HV3 := Lib.hid hv3
        clear hv3
        go_wp2_with fail
        try rw [HV3.out]
        have z0 := HR3.out.cell 0 (v := .slice pv l.length cv) rfl
        have z1 := HR3.out.cell 1 (v := .bool fl) rfl
        have z2 := HR3.out.cell 2 (v := .int .u8 9) rfl
        have z3 := HR3.out.cell 3 (v := .bool false) rfl
        have hkk : Kept (fun j => j = cb ∨ j = w.heap.size) v1 v3 := (HK.out.mono fun _ _ e => .inl e).trans' HK3.out fun _ _ e => .inr e
        have hfin : AskPost fl none l w (.returned (.tuple #[.agg #[.slice pv l.length cv, .bool fl, .int .u8 9, .bool false], .bool true])) v3 :=
          ⟨_, rfl, own_kept HOV.out hkk fun g hg e => by have := HNB.out g hg; omega, HBV.out.trans (below_of_kept hkk (fun j e => by omega) HBV.out.size)⟩
        refine bodyPost_ret (v := .tuple #[.agg #[.slice pv l.length cv, .bool fl, .int .u8 9, .bool false], .bool true]) ?_ rfl hfin
        simp [results, Tryz.results90, go_sem, z0, z1, z2, z3]
      | some x =>
        have hfl : fl = true := HFD.out (by simp)
        subst hfl
        simp only [Option.map_some, lastV, strV] at hla
        go_wp2_with fail
        refine hla.mono ?_
        rintro e w7 ⟨rfl, hb7⟩
        clear hla
        have HB7 := Lib.hid (HB.out.trans (hb7.mono HB.out.size))
        have HR7 := Lib.hid (HR6.out.keep hb7 HR6.out.lt)
        have HC7 := Lib.hid (HC6.out.keep hb7 HC6.out.lt)
        clear hb7 HR6 HC6
        have hhn : Calls Tryz.prog 104 #[.slice p L.length cap, .int .u8 110] w7 fun e w' => e = .returned (.bool (Op.has L 110)) ∧ Below w7.heap.size w7 w' := hasOpt_any L 110 p cap hcap hN w7 (HO.out.below HB7.out)
        rw [HN.out] at hhn
        go_wp2_with fail
        refine hhn.mono ?_
        rintro e w8 ⟨rfl, hb8⟩
        clear hhn
        have HB8 := Lib.hid (HB7.out.trans (hb8.mono HB7.out.size))
        have HR8 := Lib.hid (HR7.out.keep hb8 HR7.out.lt)
        have HC8 := Lib.hid (HC7.out.keep hb8 HC7.out.lt)
        clear hb8 HR7 HC7
        have x1 := HC8.out.cell 1 (v := .bool true) rfl
        have x2 := HC8.out.cell 2 (v := .int .u8 9) rfl
        have y2 := HC8.out.free 2
        obtain ⟨w9, hw9⟩ : ∃ w9, w8.setCell ⟨cb, 2, none⟩ (.int .u8 x.toNat) = w9 := ⟨_, rfl⟩
        have HC9 := Lib.hid (show Blk w9 cb #[.slice none 0 0, .bool true, .int .u8 x.toNat, .bool false] 210 by rw [← hw9]; exact HC8.out.set 2 _)
        have HR9 := Lib.hid (show Blk w9 w.heap.size #[.slice none 0 0, .bool false, .int .u8 0, .bool false] 210 by rw [← hw9]; exact HR8.out.setOther (a := ⟨cb, 2, none⟩) (by show w.heap.size ≠ cb; omega) _)
        have HB9 := Lib.hid (show Below w.heap.size w w9 by rw [← hw9]; exact HB8.out.setCell (p := ⟨cb, 2, none⟩) (by show w.heap.size ≤ cb; omega) _)
        have HW9 := Lib.hid hw9
        clear hw9
        have hli := list_any s hS w9 (HG.out.below HB9.out)
        rw [HL.out] at hli
        have i0 : ∀ h, (⟨#[x]⟩ : ByteArray)[0]'h = x := fun _ => rfl
        go_upto_region 20 with fail
        rw [HW9.out]
        clear HW9 HC8 HR8 x1 x2 y2
        go_wp2_with fail
        refine hli.mono ?_
        rintro e v1 ⟨hv1, hv2⟩
        rcases hv2 with ⟨h, -⟩ | ⟨l', v, he, rfl, ho⟩
        · cases h
        obtain rfl := Option.some.inj he
        obtain ⟨pv, cv, rfl⟩ := own_shape ho
        have HBV := Lib.hid (HB9.out.trans (hv1.mono HB9.out.size))
        have hrv := HR9.out.keep hv1 HR9.out.lt
        have hcv := HC9.out.keep hv1 HC9.out.lt
        have c0 := hcv.cell 0 (v := .slice none 0 0) rfl
        have f0 := hcv.free 0
        have hov := own_mono ho (show w.heap.size ≤ w9.heap.size from HB9.out.size)
        have hnb : ∀ g, (Value.slice pv l.length cv).ownBlock = some g → w9.heap.size ≤ g := fun g e => (ho.lt g e).1
        have HC2 := Lib.hid (hcv.set 0 (.slice pv l.length cv))
        have HRV := Lib.hid (hrv.setOther (a := ⟨cb, 0, none⟩) (by show w.heap.size ≠ cb; omega) (.slice pv l.length cv))
        have HOV := Lib.hid hov
        have HNB := Lib.hid hnb
        have hcw : cb < w9.heap.size := HC9.out.lt
        have hww : w.heap.size < w9.heap.size := HR9.out.lt
        have HK := Lib.hid (show Kept (fun j => j = cb) v1 (v1.setCell ⟨cb, 0, none⟩ (.slice pv l.length cv)) from (Kept.refl (fun j => j = cb) v1).setCell (.inl rfl) 0 _)
        clear hli hv1 he ho hrv hcv hov hnb
        go_upto_region 21 with fail
        obtain ⟨v2, hv2⟩ : ∃ v2, v1.setCell ⟨cb, 0, none⟩ (.slice pv l.length cv) = v2 := ⟨_, rfl⟩
        rw [hv2] at HC2 HRV HK
        rw [hv2]
        have d0 := HC2.out.cell 0 (v := .slice pv l.length cv) rfl
        have d1 := HC2.out.cell 1 (v := .bool true) rfl
        have d2 := HC2.out.cell 2 (v := .int .u8 x.toNat) rfl
        have d3 := HC2.out.cell 3 (v := .bool false) rfl
        have r0 := HRV.out.cell 0 (v := .slice none 0 0) rfl
        have r1 := HRV.out.cell 1 (v := .bool false) rfl
        have r2 := HRV.out.cell 2 (v := .int .u8 0) rfl
        have r3 := HRV.out.cell 3 (v := .bool false) rfl
        have g0 := HRV.out.free 0
        have g1 := HRV.out.free 1
        have g2 := HRV.out.free 2
        have g3 := HRV.out.free 3
        clear hv2 c0 f0
        obtain ⟨v3, hv3⟩ : ∃ v3, (((v2.setCell ⟨w.heap.size, 0, none⟩ (.slice pv l.length cv)).setCell ⟨w.heap.size, 1, none⟩ (.bool true)).setCell ⟨w.heap.size, 2, none⟩ (.int .u8 x.toNat)).setCell ⟨w.heap.size, 3, none⟩ (.bool false) = v3 := ⟨_, rfl⟩
        have HR3 := Lib.hid (show Blk v3 w.heap.size #[.slice pv l.length cv, .bool true, .int .u8 x.toNat, .bool false] 210 by rw [← hv3]; exact ((((HRV.out.set 0 _).set 1 _).set 2 _).set 3 _))
        have HK3 := Lib.hid (show Kept (fun j => j = w.heap.size) v2 v3 by rw [← hv3]; exact (((((Kept.refl (fun j => j = w.heap.size) v2).setCell (.inl rfl) 0 _).setCell (.inl rfl) 1 _).setCell (.inl rfl) 2 _).setCell (.inl rfl) 3 _))
        have HV3 := Lib.hid hv3
        clear hv3
        go_wp2_with fail
        try rw [HV3.out]
        have z0 := HR3.out.cell 0 (v := .slice pv l.length cv) rfl
        have z1 := HR3.out.cell 1 (v := .bool true) rfl
        have z2 := HR3.out.cell 2 (v := .int .u8 x.toNat) rfl
        have z3 := HR3.out.cell 3 (v := .bool false) rfl
        have hkk : Kept (fun j => j = cb ∨ j = w.heap.size) v1 v3 := (HK.out.mono fun _ _ e => .inl e).trans' HK3.out fun _ _ e => .inr e
        have hfin : AskPost true (some x) l w (.returned (.tuple #[.agg #[.slice pv l.length cv, .bool true, .int .u8 x.toNat, .bool false], .bool true])) v3 :=
          ⟨_, rfl, own_kept HOV.out hkk fun g hg e => by have := HNB.out g hg; omega, HBV.out.trans (below_of_kept hkk (fun j e => by omega) HBV.out.size)⟩
        refine bodyPost_ret (v := .tuple #[.agg #[.slice pv l.length cv, .bool true, .int .u8 x.toNat, .bool false], .bool true]) ?_ rfl hfin
        simp [results, Tryz.results90, go_sem, z0, z1, z2, z3]

end Go.Proofs.YtjdcjdclipbjhaaGreatDoor

/-
  Small walks of cols: a line is said, a copy of bytes, no names. Conditions: a process that runs; lengths. Lines of an input, plain.
-/
namespace Go.Proofs.YtjdcjdclipbjhaaGreatDoor
open Go.RowKit Go.Shelf Go.Maps

namespace Wi
theorem lineOf_spec : ∀ (inp : Bytes), inp = (lineOf inp).1 ++ feedOf (lineOf inp).2.1 ++ (lineOf inp).2.2 := by
  intro inp
  induction inp with
  | nil => simp [lineOf, feedOf]
  | cons c r ih =>
    rw [lineOf]
    by_cases hc : c = 10
    · subst hc; simp [feedOf]
    · rw [if_neg hc]
      simp only [List.cons_append]
      rw [← ih]
theorem line_some {inp : Bytes} (h : inp ≠ []) : ((lineOf inp).2.1 || !(lineOf inp).1.isEmpty) = true := by
  cases inp with
  | nil => exact absurd rfl h
  | cons c r =>
    rw [lineOf]
    split
    · rfl
    · simp
theorem lineOf_rest (inp : Bytes) (h : inp ≠ []) : (lineOf inp).2.2.length < inp.length := by
  have h1 := congrArg List.length (lineOf_spec inp)
  have h2 := line_some h
  simp only [List.length_append] at h1
  rw [Bool.or_eq_true] at h2
  rcases h2 with h3 | h3
  · rw [h3] at h1
    simp [feedOf] at h1
    omega
  · have : 0 < (lineOf inp).1.length := by
      cases hl : (lineOf inp).1 with
      | nil => rw [hl] at h3; cases h3
      | cons _ _ => simp
    omega
theorem lineOf_len (inp : Bytes) : (lineOf inp).1.length ≤ inp.length := by
  have h1 := congrArg List.length (lineOf_spec inp)
  simp only [List.length_append] at h1
  omega
end Wi

/-- append in a region whose operation waits for a test that held. -/
theorem wpList_append_g {P : Program} {w : World} {ops : Array Oper} {rest : List Oper} {o : Oper} {a : Act} {Q : Exit → Act → World → Prop} (hgd : Region.wanted o (yielded ops a.tmps) = true) (s x : Operand) (t : TypeId)
    (ho : o.op = .call { callee := .builtin .append, args := #[s, x], argTypes := #[t, t] })
    (base : Nat) (e : TypeId) (i : TypeInfo) (z : Value) (size bytes : Nat) (ht : P.underlying t = some (.slice e)) (hi : P.info? e = some i) (hz : i.zero = some z)
    (hsize : i.size = size) (hby : i.bytes = bytes) (hzs : z.cells.size = size) (hsz : 0 < size)
    (v : Value) (n : Nat) (xs : List Value) (hs : a.eval s = v) (hown : w.ownsRow base e size v n xs)
    (ad : Addr) (m c : Nat) (news : List Value) (hx : a.eval x = .slice (some ad) m c) (hl : news.length = m * size) (hnews : ∀ j u, news[j]? = some u → w.cell? (ad.add j) = some u) (h1 : ∀ u ∈ news, u.oneCell' = true)
    (h63 : n + m ≤ maxLen) (hbytes : (n + m) * bytes ≤ 140737488355328) (hbase : base ≤ w.heap.size)
    (h : ∀ v' w', w'.ownsRow base e size v' (n + m) (xs ++ news) → w.grownBy w' v.ownBlock → (v' = .slice none 0 0 ↔ v = .slice none 0 0 ∧ m = 0) → wpList P ops Q rest (a.put o.dst v') w') : wpList P ops Q (o :: rest) a w :=
  wpList_step fun _ hK => by
    simp only [hgd, if_true]
    exact wp_append_own w s x t ho base e i z size bytes ht hi hz hsize hby hzs hsz v n xs hs hown ad m c news hx hl hnews h1 h63 hbytes hbase fun v' w' h2 h3 h4 => hK _ _ (h v' w' h2 h3 h4)

set_option maxRecDepth 100000 in
set_option maxHeartbeats 4000000 in
theorem saysC_any (F : Fx) (M : Nat → Prop) (inp out err xs : Bts) (v : Value) (w : World) (h : PrAt w F M inp out err) (hx : Sl w (fun g => ¬ M g) v xs) (hbig : out.length + xs.length ≤ 4294967296) :
    Calls Tryz.prog 98 #[.pointer (some ⟨F.p, 0, none⟩), v] w fun e w' => e = .returned (.bool true) ∧ ∃ M', PrAt w' F M' inp (out ++ xs) err ∧ Mv M M' w w' := by
  obtain ⟨p, c, rfl, -, -⟩ := id hx.bs
  have hw := wrAll_any1 F M inp out err xs _ w h hx hbig
  clear h hx
  go_enter Tryz.func98, Tryz.ntmps98
  go_wp2_with fail
  refine hw.mono ?_
  rintro e w1 ⟨rfl, M', hp, hm⟩
  have HP := Lib.hid hp
  have HM := Lib.hid hm
  clear hw hp hm
  go_wp2_with fail
  go_ret
  exact ⟨rfl, M', HP.out, HM.out⟩

theorem cloneB_any (N : Nat → Prop) (v : Value) (xs : Bts) (w : World) (hx : Sl w N v xs) (hbig : xs.length ≤ 4294967296) :
    Calls Tryz.prog 99 #[v] w fun e w' => ∃ v', e = .returned v' ∧ w'.ownsRow w.heap.size 5 1 v' xs.length (xs.map u8V) ∧ Below w.heap.size w w' := by
  obtain ⟨i0, hi, hz0, hz1, hz2⟩ := info_parts info_byte
  rcases hx with ⟨rfl, rfl⟩ | ⟨g, o, c, rfl, hc, -, -, hcell⟩
  · refine (AnyE.slices_Clone_nil Tryz.laysCloneB 0 0 w).mono ?_
    rintro e w' ⟨rfl, rfl⟩
    exact ⟨_, rfl, World.ownsRow_nil _ _ _ _, Below.refl _ _⟩
  · refine (AnyE.slices_Clone Tryz.laysCloneB i0 (.int .u8 0) 1 1 hi hz0 hz1 hz2 rfl (by decide) (fun w => ?_) g o xs.length c (xs.map u8V) w (by simp) (by unfold maxLen; omega) (by omega) (fun j u hu => ?_) (by simp [u8V, Value.oneCell'])).mono ?_
    · exact Tryz.sizeOf5 w
    · rw [List.getElem?_map] at hu
      have hj : j < xs.length := by
        rcases Nat.lt_or_ge j xs.length with h1 | h1
        · exact h1
        · rw [List.getElem?_eq_none h1] at hu; cases hu
      rw [List.getElem?_eq_getElem hj] at hu
      simp only [Option.map_some, Option.some.injEq] at hu
      rw [hcell j hj, ← hu]
      simp [u8V, List.getD_eq_getElem?_getD, List.getElem?_eq_getElem hj]
    · rintro e w' ⟨v', rfl, ho, -, hb⟩
      exact ⟨v', rfl, ho, hb⟩

set_option maxRecDepth 100000 in
theorem inputs0_any (p : Option Addr) (c : Nat) (w : World) :
    Calls Tryz.prog 92 #[.slice p 0 c] w fun e w' => e = .returned (.slice (some ⟨w.heap.size, 0, none⟩) 1 1) ∧ w' = w.alloc (.cells #[.string ⟨#[45]⟩] 9) := by
  go_enter Tryz.func92, Tryz.ntmps92
  go_wp2_with fail
  go_ret
  exact ⟨rfl, rfl⟩

end Go.Proofs.YtjdcjdclipbjhaaGreatDoor
