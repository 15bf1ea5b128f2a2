/-
  Texts of this seat put together: V29b, V29.
-/
import Derived.Test.YtbpcfjoebfbjmaaGreatDoorQ27

/-
  The walk of the document's Lines. Condition: lengths.
-/
namespace Go.Proofs.YtbpcfjoebfbjmaaGreatDoor
open Go.RowKit Go.Shelf Go.Maps

/-- What Lines hands back. -/
def LinesPost (pi : Option Addr) (ci : Nat) (inp : Bts) (w : World) (e : Ending) (w' : World) : Prop := ∃ p c vs, e = .returned (.slice p (Wi.lines inp).length c) ∧ w'.ownsRow w.heap.size 22 1 (.slice p (Wi.lines inp).length c) (Wi.lines inp).length vs ∧ (0 < inp.length → ∃ b o, pi = some ⟨b, o, none⟩ ∧ SubsV b o ci inp vs (Wi.lines inp)) ∧ Below w.heap.size w w'
theorem vals_shape {w : World} {B n : Nat} {v : Value} {t : TypeId} {xs : List Value} (h : w.ownsRow B t 1 v n xs) : ∃ p c, v = .slice p n c := by
  rcases h.2 with ⟨h1, h2⟩ | ⟨g, cap, cur, e, -⟩
  · exact ⟨none, 0, by rw [h1, h2]⟩
  · exact ⟨_, _, e⟩
theorem lines_nil : Wi.lines [] = [] := rfl

set_option maxRecDepth 100000 in
set_option maxHeartbeats 8000000 in
theorem lines_any (inp : Bts) (hin : inp.length ≤ 1048576) (pi : Option Addr) (ci : Nat) (hci : inp.length ≤ ci) (w : World) (hi : Bs w pi inp) :
    Calls Tryz.prog 8 #[.slice pi inp.length ci] w fun e w' => LinesPost pi ci inp w e w' := by
  rcases Nat.eq_zero_or_pos inp.length with h0 | hpos
  · obtain rfl : inp = [] := List.eq_nil_of_length_eq_zero h0
    clear hi hin h0
    simp only [List.length_nil]
    go_enter Tryz.func8, Tryz.ntmps8
    go_wp2_with fail
    go_loopw [3, 4, 5] (fun x3 x4 x5 wr => x3 = .slice none 0 0 ∧ x4 = .int .i64 0 ∧ x5 = .int .i64 0 ∧ wr = w) (fun _ _ _ _ => 0)
    case atStart => exact ⟨rfl, rfl, rfl, rfl⟩
    case round =>
      obtain ⟨rfl, rfl, rfl, rfl⟩ := hrel
      go_wp2_with fail
      go_ret
      exact ⟨none, 0, [], rfl, World.ownsRow_nil _ _ _ _, fun h => absurd h (by simp), Below.refl _ _⟩
  · obtain ⟨b, o, rfl, hcells⟩ := hi hpos
    have hbl := World.block_lt_of_cell? _ _ (hcells 0 hpos)
    have HC := Lib.hid hcells
    obtain ⟨i0, hi0, hz0, hz1, hz2⟩ := info_parts info_bytes
    have e0 : Wi.lines (inp.drop 0) = Wi.lines inp := by rw [List.drop_zero]
    obtain ⟨LS, hLS⟩ : ∃ LS, Wi.lines inp = LS := ⟨_, rfl⟩
    have HLS := Lib.hid hLS
    clear hi hcells hLS e0
    go_enter Tryz.func8, Tryz.ntmps8
    go_wp2_with fail
    go_loopw [3, 4, 5] (fun x3 x4 x5 wr => ∃ (i a : Nat) (vs : List Value) (ls : List Bts), x5 = .int .i64 i ∧ x4 = .int .i64 a ∧ a ≤ i ∧ i ≤ inp.length ∧ vs.length ≤ i ∧ Hid (wr.ownsRow w.heap.size 22 1 x3 vs.length vs) ∧ Hid (SubsV b o ci inp vs ls) ∧ Hid (ls ++ Wi.lines (inp.drop a) = LS) ∧ Hid (∀ j, a ≤ j → j < i → inp.getD j 0 ≠ 10) ∧ Hid (Below w.heap.size w wr)) (fun _ _ x5 _ => inp.length - (intOf x5).toNat)
    case atStart => exact ⟨0, 0, [], [], rfl, rfl, Nat.le_refl _, Nat.zero_le _, Nat.zero_le _, Lib.hid (World.ownsRow_nil _ _ _ _), Lib.hid ⟨rfl, fun j hj => absurd hj (Nat.not_lt_zero _)⟩, Lib.hid (by rw [List.drop_zero, HLS.out]; rfl), Lib.hid (fun j _ h => by omega), Lib.hid (Below.refl _ _)⟩
    case round =>
      obtain ⟨i, a, vs, ls, rfl, rfl, hai, hil, hvl, HO, HS, HE, HN, HB⟩ := hrel
      obtain ⟨p, c, rfl⟩ := vals_shape HO.out
      by_cases hlt : i < inp.length
      · obtain ⟨x, hx⟩ : ∃ x, inp.getD i 0 = x := ⟨_, rfl⟩
        have hc0 := HC.out i hlt
        rw [hx] at hc0
        have hcr := (HB.out.cell (p := ⟨b, o + i, none⟩) hbl).trans hc0
        have g1 : decide ((i : Int) < inp.length) = true := by simp; omega
        have g2 : decide (i < inp.length) = true := by simp; omega
        have g3 : (0 : Int) ≤ i := by omega
        have g4 : (i : Int) < inp.length := by omega
        have HX := Lib.hid hx
        clear hc0 hx
        by_cases h10 : x = 10
        · subst h10
          have hcr2 : wr.cell? ⟨b, o + i, none⟩ = some (.int .u8 10) := hcr
          have f1 : (0 : Int) ≤ a := by omega
          have f2 : (a : Int) ≤ i := by omega
          have f3 : (i : Int) ≤ ci := by omega
          have f4 : a ≤ i := hai
          have f5 : i ≤ ci := by omega
          have f6 : ¬ ci - a = 0 := by omega
          have f7 : ¬ ci = a := by omega
          have f8 : ¬ ci ≤ a := by omega
          have hat := lines_at inp a i hai hlt HN.out HX.out
          obtain ⟨l, hl⟩ : ∃ l, (inp.drop a).take (i - a) = l := ⟨_, rfl⟩
          have hll : l.length = i - a := by rw [← hl, List.length_take, List.length_drop]; omega
          rw [hl] at hat
          have hsub : SubV b o ci inp (.slice (some ⟨b, o + a, none⟩) (i - a) (ci - a)) l := ⟨a, by rw [hll], by omega, by rw [hll]; exact hl⟩
          have HPUSH := Lib.hid (HS.out.push hsub)
          have HE2 : Hid ((ls ++ [l]) ++ Wi.lines (inp.drop (i + 1)) = LS) := Lib.hid (by rw [← HE.out, hat]; simp)
          have hvl2 : vs.length ≤ 1048576 := by omega
          clear hat hl hsub hcr
          go_wp2_with (at_builtin; refine wpList_append_own _ rfl _ _ 38 rfl w.heap.size 22 i0 (.slice none 0 0) 1 24 Tryz.underlying38 hi0 hz0 hz1 hz2 rfl (by decide) _ _ _ rfl (HO.out.alloc _) ⟨wr.heap.size, 0, none⟩ 1 1 [.slice (some ⟨b, o + a, none⟩) (i - a) (ci - a)] rfl rfl (cell_one_new _ _ _) (by simp [Value.oneCell']) (by unfold maxLen; omega) (by omega) (by have := HB.out.size; simp <;> omega) ?_; intro v' w5 hown' hgrow _)
          have hb5 : Below w.heap.size w w5 := (HB.out.alloc HB.out.size _).grown hgrow (by have := HB.out.size; simp <;> omega) fun j hj => (HO.out.lt j hj).1
          go_roundw
          case rel => exact ⟨i + 1, i + 1, vs ++ [.slice (some ⟨b, o + a, none⟩) (i - a) (ci - a)], ls ++ [l], by go_num, by go_num, Nat.le_refl _, by omega, by simp; omega, Lib.hid (by simpa using hown'), HPUSH, HE2, Lib.hid (fun j h1 h2 => by omega), Lib.hid hb5⟩
          case measure => simp [intOf]; omega
        · have f0 : ((x.toNat : Int) == 10) = false := by simpa using u8_lit (n := 10) h10 (by decide)
          have H10 := Lib.hid h10
          clear h10
          go_wp2_with fail
          go_roundw
          case rel => exact ⟨i + 1, a, vs, ls, by go_num, rfl, by omega, by omega, by omega, HO, HS, HE, Lib.hid (fun j h1 h2 => by
            rcases Nat.lt_or_ge j i with h | h
            · exact HN.out j h1 h
            · have : j = i := by omega
              rw [this, HX.out]; exact H10.out), HB⟩
          case measure => simp [intOf]; omega
      · obtain rfl : i = inp.length := by omega
        have g1 : decide ((inp.length : Int) < inp.length) = false := by simp
        by_cases hal : a < inp.length
        · have e1 : decide ((a : Int) < inp.length) = true := by simp; omega
          have e2 : decide (a < inp.length) = true := by simp; omega
          have f1 : (0 : Int) ≤ a := by omega
          have f2 : (a : Int) ≤ inp.length := by omega
          have f6 : ¬ ci - a = 0 := by omega
          have f7 : ¬ ci = a := by omega
          have f8 : ¬ ci ≤ a := by omega
          have hat := lines_end inp a hal HN.out
          obtain ⟨l, hl⟩ : ∃ l, inp.drop a = l := ⟨_, rfl⟩
          have hll : l.length = inp.length - a := by rw [← hl, List.length_drop]
          rw [hl] at hat
          have hsub : SubV b o ci inp (.slice (some ⟨b, o + a, none⟩) (inp.length - a) (ci - a)) l := ⟨a, by rw [hll], by omega, by rw [hl, List.take_of_length_le (by omega)]⟩
          have HPUSH := Lib.hid (HS.out.push hsub)
          have HE2 : Hid (ls ++ [l] = LS) := Lib.hid (by rw [← HE.out, hl, hat])
          have hvl2 : vs.length ≤ 1048576 := by omega
          clear hat hl hsub
          go_wp2_with (at_builtin; refine wpList_append_own _ rfl _ _ 38 rfl w.heap.size 22 i0 (.slice none 0 0) 1 24 Tryz.underlying38 hi0 hz0 hz1 hz2 rfl (by decide) _ _ _ rfl (HO.out.alloc _) ⟨wr.heap.size, 0, none⟩ 1 1 [.slice (some ⟨b, o + a, none⟩) (inp.length - a) (ci - a)] rfl rfl (cell_one_new _ _ _) (by simp [Value.oneCell']) (by unfold maxLen; omega) (by omega) (by have := HB.out.size; simp <;> omega) ?_; intro v' w5 hown' hgrow _)
          have hb5 : Below w.heap.size w w5 := (HB.out.alloc HB.out.size _).grown hgrow (by have := HB.out.size; simp <;> omega) fun j hj => (HO.out.lt j hj).1
          have hlen : (vs ++ [Value.slice (some ⟨b, o + a, none⟩) (inp.length - a) (ci - a)]).length = LS.length := by rw [← HE2.out]; exact HPUSH.out.1
          have hlen2 : vs.length + 1 = LS.length := by simpa using hlen
          obtain ⟨p', c', rfl⟩ := vals_shape hown'
          rw [hlen2] at hown'
          go_ret
          refine ⟨p', c', _, by rw [HLS.out, ← hlen2]; rfl, by rw [HLS.out]; exact hown', fun _ => ⟨b, o, rfl, by rw [HLS.out, ← HE2.out]; exact HPUSH.out⟩, hb5⟩
        · obtain rfl : a = inp.length := by omega
          have e1 : decide ((inp.length : Int) < inp.length) = false := by simp
          have hE : ls = LS := by
            have := HE.out
            rw [List.drop_of_length_le (Nat.le_refl _), lines_nil, List.append_nil] at this
            exact this
          have HE2 := Lib.hid hE
          have hlen : vs.length = LS.length := by rw [← hE]; exact HS.out.1
          clear hE
          go_wp2_with fail
          go_ret
          refine ⟨p, c, vs, by rw [HLS.out, ← hlen]; rfl, by rw [HLS.out, ← hlen]; exact HO.out, fun _ => ⟨b, o, rfl, by rw [HLS.out, ← HE2.out]; exact HS.out⟩, HB.out⟩

end Go.Proofs.YtbpcfjoebfbjmaaGreatDoor

/-
  The walk of the law WidthNumbers. Conditions: lengths; what the library's variables hold.
-/
namespace Go.Proofs.YtbpcfjoebfbjmaaGreatDoor
open Go.RowKit Go.Shelf Go.Maps

/-- What a run hands back, its slices written out. -/
def RunPost (r : Bts × Bool) (W : World) (e : Ending) (w' : World) : Prop := ∃ (sv : Int) (po : Option Addr) (co : Nat) (q : Option Addr) (er d : Nat) (steps peak : Int), e = .returned (.tuple #[.agg #[.slice po r.1.length co, .slice q er d, .int .i64 sv, .slice none 0 0, .int .i64 steps, .int .i64 peak, .int .i64 0], .bool true]) ∧ sv = (if r.2 then 0 else 1) ∧ Bs w' po r.1 ∧ r.1.length ≤ co ∧ Below W.heap.size W w'
theorem numRun_lit (DV DY inp : Bts) (r : Bts × Bool) (bN lN rN : Nat) (h : RunQ (numArgs DV DY) inp r bN lN rN) (pi : Option Addr) (ci : Nat) (W : World) (b : Nat) (hg : Glo W) (hk : Blk W b #[.string ⟨#[110, 108]⟩, .string ⟨#[45, 98, 97]⟩, .string ⟨#[45, 119, 57]⟩, .string ⟨#[45, 110, 114, 122]⟩, .string ⟨#[45, 115]⟩, .string ⟨#[]⟩, .string ⟨#[45, 118]⟩, .string ⟨DV.toArray⟩, .string ⟨#[45, 105]⟩, .string ⟨DY.toArray⟩] 9) (hi : Bs W pi inp) :
    Calls Tryz.prog 6 #[.slice pi inp.length ci, .agg #[.int .i64 bN, .int .i64 lN, .int .i64 rN], .slice (some ⟨b, 0, none⟩) 10 10] W fun e w' => RunPost r W e w' := by
  refine (h.st W (some ⟨b, 0, none⟩) 10 pi ci hg (ss_lit (l := numArgs DV DY) (t := 9) hk) hi).mono ?_
  rintro e w' ⟨sv, ov, ev, st, pk, er, rfl, hsv, so, se, hb⟩
  obtain ⟨po, co, rfl, hob, hoc⟩ := so.bs
  obtain ⟨q, d, rfl, -, -⟩ := se.bs
  exact ⟨sv, po, co, q, er.length, d, st, pk, rfl, hsv, hob, hoc, hb⟩

theorem linesF_len : ∀ (k : Nat) (s : Bts), (Wi.linesF k s).length ≤ s.length := by
  intro k
  induction k with
  | zero => intro s; simp [Wi.linesF]
  | succ k ih =>
    intro s
    rw [Wi.linesF]
    by_cases h : s = []
    · rw [if_pos h]; simp
    · rw [if_neg h]
      have h1 := Wi.lineOf_rest s h
      have h2 := ih (Wi.lineOf s).2.2
      simp only [List.length_cons]
      omega
theorem lines_len (s : Bts) : (Wi.lines s).length ≤ s.length := linesF_len _ s
theorem vals_at {w : World} {B c n : Nat} {p : Option Addr} {t : TypeId} {xs : List Value} (h : w.ownsRow B t 1 (.slice p n c) n xs) (k : Nat) (hk : k < n) : ∃ g, p = some ⟨g, 0, none⟩ ∧ w.cell? ⟨g, k, none⟩ = xs[k]? ∧ n ≤ c ∧ n ≤ 9223372036854775807 := by
  rcases h.2 with ⟨h1, h2⟩ | ⟨g', cap, cur, e', -, -, hc, hm, -⟩
  · omega
  · injection e' with e1 e2 e3
    subst e1
    exact ⟨g', rfl, h.cellAt k (by omega), by omega, by unfold maxLen at hm; omega⟩
theorem set7_far (W : World) (rb lim i : Nat) (v0 v1 v2 v3 v4 v5 v6 : Value) (h : rb ≠ lim) : (((((((W.setCell ⟨rb, 0, none⟩ v0).setCell ⟨rb, 1, none⟩ v1).setCell ⟨rb, 2, none⟩ v2).setCell ⟨rb, 3, none⟩ v3).setCell ⟨rb, 4, none⟩ v4).setCell ⟨rb, 5, none⟩ v5).setCell ⟨rb, 6, none⟩ v6).cell? ⟨lim, i, none⟩ = W.cell? ⟨lim, i, none⟩ := by
  rw [World.cell?_setCell_far _ _ _ _ h, World.cell?_setCell_far _ _ _ _ h, World.cell?_setCell_far _ _ _ _ h, World.cell?_setCell_far _ _ _ _ h, World.cell?_setCell_far _ _ _ _ h, World.cell?_setCell_far _ _ _ _ h, World.cell?_setCell_far _ _ _ _ h]
/-- The result's seven cells, stored one by one. -/
theorem set7_all {W w0 : World} {rb : Nat} {t : TypeId} {po : Option Addr} {xs : Bts} (v0 v1 v2 v3 v4 v5 v6 : Value) (h : Blk W rb #[.slice none 0 0, .slice none 0 0, .int .i64 0, .slice none 0 0, .int .i64 0, .int .i64 0, .int .i64 0] t) (ho : Bs W po xs) (hb : Below w0.heap.size w0 W) (hr : w0.heap.size ≤ rb) :
    Blk (((((((W.setCell ⟨rb, 0, none⟩ v0).setCell ⟨rb, 1, none⟩ v1).setCell ⟨rb, 2, none⟩ v2).setCell ⟨rb, 3, none⟩ v3).setCell ⟨rb, 4, none⟩ v4).setCell ⟨rb, 5, none⟩ v5).setCell ⟨rb, 6, none⟩ v6) rb #[v0, v1, v2, v3, v4, v5, v6] t ∧
    Bs (((((((W.setCell ⟨rb, 0, none⟩ v0).setCell ⟨rb, 1, none⟩ v1).setCell ⟨rb, 2, none⟩ v2).setCell ⟨rb, 3, none⟩ v3).setCell ⟨rb, 4, none⟩ v4).setCell ⟨rb, 5, none⟩ v5).setCell ⟨rb, 6, none⟩ v6) po xs ∧
    Below w0.heap.size w0 (((((((W.setCell ⟨rb, 0, none⟩ v0).setCell ⟨rb, 1, none⟩ v1).setCell ⟨rb, 2, none⟩ v2).setCell ⟨rb, 3, none⟩ v3).setCell ⟨rb, 4, none⟩ v4).setCell ⟨rb, 5, none⟩ v5).setCell ⟨rb, 6, none⟩ v6) := by
  refine ⟨?_, ?_, ((((((hb.setCell hr _).setCell hr _).setCell hr _).setCell hr _).setCell hr _).setCell hr _).setCell hr _⟩
  · have := ((((((h.set 0 v0).set 1 v1).set 2 v2).set 3 v3).set 4 v4).set 5 v5).set 6 v6
    exact this
  · intro hne
    obtain ⟨b, o, rfl, hc⟩ := ho hne
    refine ⟨b, o, rfl, fun j hj => ?_⟩
    have hbr : rb ≠ b := by
      rintro rfl
      have e := hc j hj
      rw [Lib.cell_of_heap h] at e
      generalize o + j = k at e
      match k with
      | 0 => simp at e
      | 1 => simp at e
      | 2 => simp at e
      | 3 => simp at e
      | 4 => simp at e
      | 5 => simp at e
      | 6 => simp at e
      | k + 7 => simp at e
    rw [set7_far W rb b (o + j) v0 v1 v2 v3 v4 v5 v6 hbr]
    exact hc j hj
/-- Where a run's result lies. -/
def NumRel (r : Bts × Bool) (w0 : World) (x11 x12 : Value) (wx : World) : Prop := ∃ (rb : Nat) (sv : Int) (po : Option Addr) (co : Nat) (q : Option Addr) (er d : Nat) (steps peak : Int), x11 = .pointer (some ⟨rb, 0, none⟩) ∧ x12 = .bool true ∧ Blk wx rb #[.slice po r.1.length co, .slice q er d, .int .i64 sv, .slice none 0 0, .int .i64 steps, .int .i64 peak, .int .i64 0] 34 ∧ sv = (if r.2 then 0 else 1) ∧ Bs wx po r.1 ∧ r.1.length ≤ co ∧ Below w0.heap.size w0 wx

set_option maxRecDepth 100000 in
set_option maxHeartbeats 8000000 in
theorem numbers_any (inp : Bts) (hin : inp.length ≤ 1048576) (pi : Option Addr) (ci : Nat) (hci : inp.length ≤ ci) (n : Int) (hn1 : -9223372036854775808 ≤ n) (hn2 : n ≤ 9223372036854775807) (m : Int) (hm1 : -9223372036854775808 ≤ m) (hm2 : m ≤ 9223372036854775807) (buf line run : Int) (w : World) (hg : Glo w) (hi : Bs w pi inp) :
    Calls Tryz.prog 3 #[.slice pi inp.length ci, .int .i64 n, .int .i64 m, .agg #[.int .i64 buf, .int .i64 line, .int .i64 run]] w fun e w' => e = .returned (.bool true) ∧ Below w.heap.size w w' := by
  obtain ⟨w0, hw0⟩ : ∃ w0, w.alloc (.cells #[.int .i64 buf, .int .i64 line, .int .i64 run] 24) = w0 := ⟨_, rfl⟩
  have hb0 : Below w.heap.size w w0 := by rw [← hw0]; exact (Below.refl _ _).alloc (Nat.le_refl _) _
  have hk0 : Blk w0 w.heap.size #[.int .i64 buf, .int .i64 line, .int .i64 run] 24 := by rw [← hw0]; exact Blk.new _ _ _
  have haw := awake_any w0 (hg.below hb0)
  have HG := Lib.hid hg
  have HI := Lib.hid (hi.below hb0 (Nat.le_refl _))
  have HW0 := Lib.hid hw0
  have HB0 := Lib.hid hb0
  have HLIM := Lib.hid hk0
  have HN := Lib.hid (And.intro hn1 hn2)
  have HM2 := Lib.hid (And.intro hm1 hm2)
  clear hg hi hw0 hb0 hk0
  go_enter Tryz.func3, Tryz.ntmps3
  go_wp2_with fail
  rw [HW0.out]
  refine haw.mono ?_
  rintro e w1 ⟨rfl, hb1⟩
  have HB1 := Lib.hid hb1
  clear haw hb1
  obtain ⟨wA, hwA⟩ : ∃ wA, w1.alloc (.cells #[.string ⟨#[120]⟩] 9) = wA := ⟨_, rfl⟩
  have hbA : Below w0.heap.size w0 wA := by rw [← hwA]; exact HB1.out.alloc HB1.out.size _
  have l0 := (HLIM.out.keep hbA HLIM.out.lt).cell 0 (v := .int .i64 buf) rfl
  have l1 := (HLIM.out.keep hbA HLIM.out.lt).cell 1 (v := .int .i64 line) rfl
  have l2 := (HLIM.out.keep hbA HLIM.out.lt).cell 2 (v := .int .i64 run) rfl
  rw [← hwA] at l0 l1 l2
  have hmay := rmay_any (some ⟨w1.heap.size, 0, none⟩) 1 1 (by decide) buf line run wA
  have HWA := Lib.hid hwA
  have HBA := Lib.hid hbA
  unfold jobV at hmay
  clear hwA hbA
  go_wp2_with fail
  rw [HWA.out]
  clear l0 l1 l2
  refine hmay.mono ?_
  rintro e w5 ⟨rfl, hb5⟩
  have HB05 := Lib.hid (HBA.out.trans (hb5.mono HBA.out.size))
  have HFIN0 := Lib.hid (HB0.out.trans (HB05.out.mono HB0.out.size))
  clear hmay hb5
  cases hm : mayB buf line run with
  | false =>
    clear hm
    go_wp2_with fail
    go_ret
    exact ⟨rfl, HFIN0.out⟩
  | true =>
    have HM := Lib.hid (mayB_false hm)
    clear hm
    by_cases t0 : n < 0
    · have e0 : decide (n < 0) = true := by simpa using t0
      clear t0
      go_wp2_with fail
      go_ret
      exact ⟨rfl, HFIN0.out⟩
    have e0 : decide (n < 0) = false := by simpa using t0
    by_cases t1 : 9999 < n
    · have e1 : decide (9999 < n) = true := by simpa using t1
      clear t0 t1
      go_wp2_with fail
      go_ret
      exact ⟨rfl, HFIN0.out⟩
    have e1 : decide (9999 < n) = false := by simpa using t1
    by_cases t2 : m < 0
    · have e2 : decide (m < 0) = true := by simpa using t2
      clear t0 t1 t2
      go_wp2_with fail
      go_ret
      exact ⟨rfl, HFIN0.out⟩
    have e2 : decide (m < 0) = false := by simpa using t2
    by_cases t3 : 9999 < m
    · have e3 : decide (9999 < m) = true := by simpa using t3
      clear t0 t1 t2 t3
      go_wp2_with fail
      go_ret
      exact ⟨rfl, HFIN0.out⟩
    have e3 : decide (9999 < m) = false := by simpa using t3
    by_cases t4 : 5000 < inp.length
    · have e4 : decide ((5000 : Int) < inp.length) = true := by simp; omega
      have e5 : decide (5000 < inp.length) = true := by simp; omega
      clear t0 t1 t2 t3 t4
      go_wp2_with fail
      go_ret
      exact ⟨rfl, HFIN0.out⟩
    have e4 : decide ((5000 : Int) < inp.length) = false := by simp; omega
    have e5 : decide (5000 < inp.length) = false := by simp; omega
    obtain ⟨V, rfl⟩ : ∃ N : Nat, n = N := ⟨n.toNat, by omega⟩
    obtain ⟨Y, rfl⟩ : ∃ N : Nat, m = N := ⟨m.toNat, by omega⟩
    have hm := HM.out
    obtain ⟨bN, rfl⟩ : ∃ b : Nat, buf = b := ⟨buf.toNat, by omega⟩
    obtain ⟨lN, rfl⟩ : ∃ b : Nat, line = b := ⟨line.toNat, by omega⟩
    obtain ⟨rN, rfl⟩ : ∃ b : Nat, run = b := ⟨run.toNat, by omega⟩
    have hV : V ≤ 9999 := by omega
    have hY : Y ≤ 9999 := by omega
    have hI5 : inp.length ≤ 5000 := by omega
    have hrunq := numRun V Y hV hY inp hI5 bN lN rN (by omega) (by omega) (by omega) (by omega) (by omega)
    have hmul : inp.length * Y ≤ 5000 * 9999 := Nat.mul_le_mul hI5 hY
    have hlaw := Wi.numbers_law Y lN inp.length V inp (Nat.le_refl _) (by omega)
    have hol := nlZ_len Y lN V inp
    change (Wi.runs (Wi.nlZ Y) lN V inp).2 = true → (Wi.lines (Wi.runs (Wi.nlZ Y) lN V inp).1).length = (Wi.lines inp).length ∧ ∀ i, i < (Wi.lines inp).length → Wi.nlOk (V + i * Y) ((Wi.lines (Wi.runs (Wi.nlZ Y) lN V inp).1).getD i []) ((Wi.lines inp).getD i []) at hlaw
    generalize hR : Wi.runs (Wi.nlZ Y) lN V inp = R at *
    have hd2 : ∀ (N : Nat) (W : World), N ≤ 9999 → Below w0.heap.size w0 W → Calls Tryz.prog 7 #[.int .i64 (N : Int), .int .i64 10] W fun e w' => e = .returned (.string ⟨(Lib.itoa (N : Int)).toArray⟩) ∧ Below w0.heap.size w0 w' ∧ Below W.heap.size W w' := fun N W hN hW => (digits_any (N : Int) (by omega) (by omega) W (HG.out.below (HB0.out.trans (hW.mono HB0.out.size)))).mono fun e w' h => ⟨h.1, hW.trans (h.2.mono hW.size), h.2⟩
    have hrun : ∀ (W : World) (b : Nat), Below w0.heap.size w0 W → Blk W b #[.string ⟨#[110, 108]⟩, .string ⟨#[45, 98, 97]⟩, .string ⟨#[45, 119, 57]⟩, .string ⟨#[45, 110, 114, 122]⟩, .string ⟨#[45, 115]⟩, .string ⟨#[]⟩, .string ⟨#[45, 118]⟩, .string ⟨(Lib.itoa (V : Int)).toArray⟩, .string ⟨#[45, 105]⟩, .string ⟨(Lib.itoa (Y : Int)).toArray⟩] 9 → Calls Tryz.prog 6 #[.slice pi inp.length ci, .agg #[.int .i64 bN, .int .i64 lN, .int .i64 rN], .slice (some ⟨b, 0, none⟩) 10 10] W fun e w' => RunPost R W e w' ∧ Below w0.heap.size w0 w' := fun W b hW hk => (numRun_lit (Lib.itoa (V : Int)) (Lib.itoa (Y : Int)) inp R bN lN rN hrunq pi ci W b (HG.out.below (HB0.out.trans (hW.mono HB0.out.size))) hk (HI.out.below hW (Nat.le_refl _))).mono fun e w' h => ⟨h, by obtain ⟨_, _, _, _, _, _, _, _, _, _, _, _, hb⟩ := h; exact hW.trans (hb.mono hW.size)⟩
    have hlm : ∀ W, Below w0.heap.size w0 W → W.cell? ⟨w.heap.size, 0, none⟩ = some (.int .i64 bN) ∧ W.cell? ⟨w.heap.size, 1, none⟩ = some (.int .i64 lN) ∧ W.cell? ⟨w.heap.size, 2, none⟩ = some (.int .i64 rN) := fun W hW => ⟨(HLIM.out.keep hW HLIM.out.lt).cell 0 rfl, (HLIM.out.keep hW HLIM.out.lt).cell 1 rfl, (HLIM.out.keep hW HLIM.out.lt).cell 2 rfl⟩
    have HS := Lib.hid (hlm w5.drew HB05.out.drew)
    have HLM := Lib.hid hlm
    have HD2 := Lib.hid hd2
    have HRUN := Lib.hid hrun
    have HLAW := Lib.hid hlaw
    have HOL := Lib.hid (show R.1.length ≤ 155000 by omega)
    clear hlm hd2 hrun hlaw hol hR hrunq t0 t1 t2 t3 t4 hm
    obtain ⟨a0, a1, a2⟩ := HLM.out w5 HB05.out
    go_upto_region 5 with fail
    go_cut [11, 12, 47, 48, 49, 50, 51, 52, 53, 54, 55, 56, 57] (fun x11 x12 _ _ _ _ _ _ _ _ _ _ _ wx => Hid (NumRel R w0 x11 x12 wx))
    case first J0 K0 hJ0 hK0 =>
      go_region_held3 (fun w' => w'.cell? ⟨w.heap.size, 0, none⟩ = some (.int .i64 bN) ∧ w'.cell? ⟨w.heap.size, 1, none⟩ = some (.int .i64 lN) ∧ w'.cell? ⟨w.heap.size, 2, none⟩ = some (.int .i64 rN)) (first | go_keep | with_reducible exact HLM.out _ HB05.out.drew | with_reducible exact HLM.out _ (HB05.out.alloc HB05.out.size _).drew | with_reducible exact HLM.out _ HB6.out | with_reducible exact HLM.out _ (HB6.out.alloc HB6.out.size _) | with_reducible exact HLM.out _ HB7.out | with_reducible exact HLM.out _ (HB7.out.alloc HB7.out.size _) | with_reducible exact HLM.out _ ((HB7.out.alloc HB7.out.size _).alloc (by have := HB7.out.size; simp only [World.size_alloc]; omega) _) | with_reducible exact HLM.out _ HB8.out | with_reducible exact HLM.out _ (HB8.out.alloc HB8.out.size _) | with_reducible exact ⟨(set7_far _ _ _ 0 _ _ _ _ _ _ _ HNE.out).trans HSS8.out.1, (set7_far _ _ _ 1 _ _ _ _ _ _ _ HNE.out).trans HSS8.out.2.1, (set7_far _ _ _ 2 _ _ _ _ _ _ _ HNE.out).trans HSS8.out.2.2⟩)
        (first
          | (go_at_call 7; have h6 := HB6.out; clear h6; refine (HD2.out Y _ hY (by first | exact HB6.out | exact HB6.out.alloc HB6.out.size _)).mono ?_; rintro e w7 ⟨rfl, hb7, hk7⟩; have HB7 := Lib.hid hb7; have HK7 := Lib.hid hk7; clear hb7 hk7; first | (have HZ7 : Hid (Blk w7 w6.heap.size #[.slice none 0 0, .slice none 0 0, .int .i64 0, .slice none 0 0, .int .i64 0, .int .i64 0, .int .i64 0] 34) := Lib.hid ((Blk.new w6 _ _).keep HK7.out (by simp)); have HR7 := Lib.hid HB6.out.size) | (have HZ7 : Hid (Blk w7 w5.heap.size #[.slice none 0 0, .slice none 0 0, .int .i64 0, .slice none 0 0, .int .i64 0, .int .i64 0, .int .i64 0] 34) := Lib.hid (HZ6.out.keep HK7.out HZ6.out.lt); have HR7 := Lib.hid HB05.out.size) | skip)
          | (go_at_call 7; refine (HD2.out V _ hV (by first | exact HB05.out.drew | exact (HB05.out.alloc HB05.out.size _).drew)).mono ?_; rintro e w6 ⟨rfl, hb6, hk6⟩; have HB6 := Lib.hid hb6; have HK6 := Lib.hid hk6; clear hb6 hk6; first | (have HZ6 : Hid (Blk w6 w5.heap.size #[.slice none 0 0, .slice none 0 0, .int .i64 0, .slice none 0 0, .int .i64 0, .int .i64 0, .int .i64 0] 34) := Lib.hid (((Blk.new w5 _ _).drew).keep HK6.out (by simp))) | skip)
          | (go_at_call 6; refine (HRUN.out _ _ (by first | exact HB7.out.alloc HB7.out.size _ | exact (HB7.out.alloc HB7.out.size _).alloc (by have := HB7.out.size; simp only [World.size_alloc]; omega) _) (by first | exact Blk.new _ _ _ | exact (Blk.new _ _ _).alloc _ | (have := Blk.new (w7.alloc (.cells #[.slice none 0 0, .slice none 0 0, .int .i64 0, .slice none 0 0, .int .i64 0, .int .i64 0, .int .i64 0] 34)) #[.string ⟨#[110, 108]⟩, .string ⟨#[45, 98, 97]⟩, .string ⟨#[45, 119, 57]⟩, .string ⟨#[45, 110, 114, 122]⟩, .string ⟨#[45, 115]⟩, .string ⟨#[]⟩, .string ⟨#[45, 118]⟩, .string ⟨(Lib.itoa (V : Int)).toArray⟩, .string ⟨#[45, 105]⟩, .string ⟨(Lib.itoa (Y : Int)).toArray⟩] 9; simpa only [World.size_alloc] using this))).mono ?_; rintro e w8 ⟨⟨sv, po, co, q, er, dd, st, pk, rfl, hsv, hob, hoc, hk8⟩, hb8⟩; have HB8 := Lib.hid hb8; have HK8 := Lib.hid hk8; have HSV := Lib.hid hsv; have HOB := Lib.hid hob; have HOC := Lib.hid hoc; clear hb8 hk8 hsv hob hoc; have hltw := HLIM.out.lt; have hsz5 := HB05.out.size; have hsz7 := HB7.out.size; (first | (have HZ8 : Hid (Blk w8 (w7.heap.size + 1) #[.slice none 0 0, .slice none 0 0, .int .i64 0, .slice none 0 0, .int .i64 0, .int .i64 0, .int .i64 0] 34) := Lib.hid ((show Blk _ (w7.heap.size + 1) #[.slice none 0 0, .slice none 0 0, .int .i64 0, .slice none 0 0, .int .i64 0, .int .i64 0, .int .i64 0] 34 from (by have := Blk.new (w7.alloc (.cells #[.string ⟨#[110, 108]⟩, .string ⟨#[45, 98, 97]⟩, .string ⟨#[45, 119, 57]⟩, .string ⟨#[45, 110, 114, 122]⟩, .string ⟨#[45, 115]⟩, .string ⟨#[]⟩, .string ⟨#[45, 118]⟩, .string ⟨(Lib.itoa (V : Int)).toArray⟩, .string ⟨#[45, 105]⟩, .string ⟨(Lib.itoa (Y : Int)).toArray⟩] 9)) #[.slice none 0 0, .slice none 0 0, .int .i64 0, .slice none 0 0, .int .i64 0, .int .i64 0, .int .i64 0] 34; simpa only [World.size_alloc] using this)).keep HK8.out (by simp)); have HNE : Hid (w7.heap.size + 1 ≠ w.heap.size) := Lib.hid (by omega); have HR8 : Hid (w0.heap.size ≤ w7.heap.size + 1) := Lib.hid (by omega)) | (have HZ8 : Hid (Blk w8 w7.heap.size #[.slice none 0 0, .slice none 0 0, .int .i64 0, .slice none 0 0, .int .i64 0, .int .i64 0, .int .i64 0] 34) := Lib.hid (((Blk.new w7 #[.slice none 0 0, .slice none 0 0, .int .i64 0, .slice none 0 0, .int .i64 0, .int .i64 0, .int .i64 0] 34).alloc (.cells #[.string ⟨#[110, 108]⟩, .string ⟨#[45, 98, 97]⟩, .string ⟨#[45, 119, 57]⟩, .string ⟨#[45, 110, 114, 122]⟩, .string ⟨#[45, 115]⟩, .string ⟨#[]⟩, .string ⟨#[45, 118]⟩, .string ⟨(Lib.itoa (V : Int)).toArray⟩, .string ⟨#[45, 105]⟩, .string ⟨(Lib.itoa (Y : Int)).toArray⟩] 9)).keep HK8.out (by simp only [World.size_alloc]; omega)); have HNE : Hid (w7.heap.size ≠ w.heap.size) := Lib.hid (by omega); have HR8 : Hid (w0.heap.size ≤ w7.heap.size) := Lib.hid (by omega)) | (have HZ8 := Lib.hid ((HZ7.out.alloc (.cells #[.string ⟨#[110, 108]⟩, .string ⟨#[45, 98, 97]⟩, .string ⟨#[45, 119, 57]⟩, .string ⟨#[45, 110, 114, 122]⟩, .string ⟨#[45, 115]⟩, .string ⟨#[]⟩, .string ⟨#[45, 118]⟩, .string ⟨(Lib.itoa (V : Int)).toArray⟩, .string ⟨#[45, 105]⟩, .string ⟨(Lib.itoa (Y : Int)).toArray⟩] 9)).keep HK8.out (by have := HZ7.out.lt; simp; omega)); have hr7 := HR7.out; have HNE : Hid (w6.heap.size ≠ w.heap.size) := Lib.hid (by omega); have HR8 : Hid (w0.heap.size ≤ w6.heap.size) := Lib.hid (by omega)) | (have HZ8 := Lib.hid ((HZ7.out.alloc (.cells #[.string ⟨#[110, 108]⟩, .string ⟨#[45, 98, 97]⟩, .string ⟨#[45, 119, 57]⟩, .string ⟨#[45, 110, 114, 122]⟩, .string ⟨#[45, 115]⟩, .string ⟨#[]⟩, .string ⟨#[45, 118]⟩, .string ⟨(Lib.itoa (V : Int)).toArray⟩, .string ⟨#[45, 105]⟩, .string ⟨(Lib.itoa (Y : Int)).toArray⟩] 9)).keep HK8.out (by have := HZ7.out.lt; simp; omega)); have HNE : Hid (w5.heap.size ≠ w.heap.size) := Lib.hid (by omega); have HR8 : Hid (w0.heap.size ≤ w5.heap.size) := Lib.hid (by omega)) | skip); clear hltw hsz5 hsz7; (first | (have z0 := HZ8.out.cell 0 (v := .slice none 0 0) rfl; have z1 := HZ8.out.cell 1 (v := .slice none 0 0) rfl; have z2 := HZ8.out.cell 2 (v := .int .i64 0) rfl; have z3 := HZ8.out.cell 3 (v := .slice none 0 0) rfl; have z4 := HZ8.out.cell 4 (v := .int .i64 0) rfl; have z5 := HZ8.out.cell 5 (v := .int .i64 0) rfl; have z6 := HZ8.out.cell 6 (v := .int .i64 0) rfl; have y0 := HZ8.out.free 0; have y1 := HZ8.out.free 1; have y2 := HZ8.out.free 2; have y3 := HZ8.out.free 3; have y4 := HZ8.out.free 4; have y5 := HZ8.out.free 5; have y6 := HZ8.out.free 6; have HS8 := HLM.out w8 HB8.out; have HSS8 := Lib.hid HS8; clear HS8) | skip)))
      all_goals ((try clear z0 z1 z2 z3 z4 z5 z6 y0 y1 y2 y3 y4 y5 y6); go_step; refine hK0 _ _ ?_; refine Met.intro ?_; go_step; (repeat apply Exists.intro); refine ⟨?_, rfl⟩; first
        | (have hz8 := HZ8.out; obtain ⟨k1, k2, k3⟩ := set7_all (.slice po R.1.length co) (.slice q er dd) (.int .i64 sv) (.slice none 0 0) (.int .i64 st) (.int .i64 pk) (.int .i64 0) hz8 HOB.out HB8.out HR8.out; exact Lib.hid ⟨_, sv, po, co, q, er, dd, st, pk, rfl, rfl, k1, HSV.out, k2, HOC.out, k3⟩)
        | exact Lib.hid ⟨_, sv, po, co, q, er, dd, st, pk, rfl, rfl, Blk.new _ _ _, HSV.out, HOB.out.below ((Below.refl _ _).alloc (Nat.le_refl _) _) (Nat.le_refl _), HOC.out, HB8.out.alloc HB8.out.size _⟩)
    case rest =>
      obtain ⟨rb, sv, po, co, q, er, d, steps, peak, rfl, rfl, hk9, hsv, hob, hoc, hb9⟩ := hcut.out
      obtain ⟨w9, hw9⟩ : ∃ w9, w9 = wc := ⟨_, rfl⟩
      subst hw9
      have HFIN := Lib.hid (HB0.out.trans (hb9.mono HB0.out.size))
      have HIN := Lib.hid (HI.out.below hb9 (Nat.le_refl _))
      have HOB := Lib.hid hob
      have HB9 := Lib.hid hb9
      have HRB := Lib.hid hk9
      clear hcut hb9 hob hk9 a0 a1 a2 HS
      obtain ⟨OUT, OK⟩ := R
      simp only at hoc hsv HOL HLAW HOB HRB
      have b0 := HRB.out.cell 0 (v := .slice po OUT.length co) rfl
      have b2 := HRB.out.cell 2 (v := .int .i64 sv) rfl
      cases OK with
      | false =>
        have h1 : sv = 1 := hsv
        subst h1
        clear hsv
        go_wp2_with fail
        go_ret
        exact ⟨rfl, HFIN.out⟩
      | true =>
        have h1 : sv = 0 := hsv
        subst h1
        obtain ⟨hll, hall⟩ := HLAW.out rfl
        have HALL := Lib.hid hall
        have hli := lines_any inp hin pi ci hci w9 HIN.out
        clear hsv hall
        go_wp2_with fail
        refine hli.mono ?_
        rintro e wa ⟨px, cx, vx, rfl, hox, hsx, hba⟩
        have hlo := lines_any OUT (by have := HOL.out; omega) po co hoc wa (HOB.out.below hba (Nat.le_refl _))
        have d0 := (HRB.out.keep hba HRB.out.lt).cell 0 (v := .slice po OUT.length co) rfl
        have HOX := Lib.hid hox
        have HSX := Lib.hid hsx
        have HBA' := Lib.hid hba
        clear hli hox hsx hba b0 b2
        go_wp2_with fail
        refine hlo.mono ?_
        rintro e wb ⟨py, cy, vy, rfl, hoy, hsy, hbb⟩
        have HOY := Lib.hid hoy
        have HOX2 := Lib.hid (row_keep HOX.out hbb)
        have HSY := Lib.hid hsy
        have HBB := Lib.hid (HBA'.out.trans (hbb.mono HBA'.out.size))
        clear hlo hoy hsy hbb d0
        obtain ⟨NL, hNL⟩ : ∃ n, (Wi.lines inp).length = n := ⟨_, rfl⟩
        rw [hNL] at HOX2 hll ⊢
        rw [hll] at HOY ⊢
        go_wp2_with fail
        go_loopw [15, 16, 17] (fun x15 _x16 _x17 wr => ∃ i : Nat, i ≤ NL ∧ x15 = .int .i64 i ∧ Hid (Below w9.heap.size w9 wr) ∧ Hid (Below wb.heap.size wb wr)) (fun x15 _ _ _ => NL - (intOf x15).toNat)
        case atStart => exact ⟨0, Nat.zero_le _, rfl, HBB, Lib.hid (Below.refl _ _)⟩
        case round =>
          obtain ⟨i, hiN, rfl, HBL, HBL2⟩ := hrel
          by_cases hlt : i < NL
          · have hinp : 0 < inp.length := by
              rcases Nat.eq_zero_or_pos inp.length with h | h
              · have : inp = [] := List.eq_nil_of_length_eq_zero h
                rw [this, lines_nil] at hNL; simp at hNL; omega
              · exact h
            have hout : 0 < OUT.length := by
              rcases Nat.eq_zero_or_pos OUT.length with h | h
              · have : OUT = [] := List.eq_nil_of_length_eq_zero h
                rw [this, lines_nil] at hll; simp at hll; omega
              · exact h
            obtain ⟨bi, oi, rfl, hsx⟩ := HSX.out hinp
            obtain ⟨bo, oo, rfl, hsy⟩ := HSY.out hout
            obtain ⟨vxi, hvx, hsvx⟩ := hsx.2 i (by omega)
            obtain ⟨vyi, hvy, hsvy⟩ := hsy.2 i (by omega)
            obtain ⟨gx, rfl, hgx, hnx, hmx⟩ := vals_at HOX2.out i hlt
            obtain ⟨gy, rfl, hgy, hny, -⟩ := vals_at HOY.out i hlt
            rw [hvx] at hgx
            rw [hvy] at hgy
            have r1 := (HBL2.out.cell (p := ⟨gx, i, none⟩) (World.block_lt_of_cell? _ _ hgx)).trans hgx
            have r2 := (HBL2.out.cell (p := ⟨gy, i, none⟩) (World.block_lt_of_cell? _ _ hgy)).trans hgy
            have hnl := HALL.out i (by omega)
            generalize (Wi.lines inp).getD i [] = X at *
            generalize (Wi.lines OUT).getD i [] = YL at *
            obtain ⟨h9, hdrop, hdig, hval⟩ := hnl
            have cellsI : ∀ j, j < inp.length → w9.cell? ⟨bi, oi + j, none⟩ = some (.int .u8 (inp.getD j 0).toNat) := fun j hj => HIN.out.at j hj
            have cellsO : ∀ j, j < OUT.length → w9.cell? ⟨bo, oo + j, none⟩ = some (.int .u8 (OUT.getD j 0).toNat) := fun j hj => HOB.out.at j hj
            obtain ⟨ax, rfl, hax, hxc⟩ := hsvx.bs cellsI
            obtain ⟨ay, rfl, hay, hyc⟩ := hsvy.bs cellsO
            have bsX : Bs wr (some ⟨bi, oi + ax, none⟩) X := fun _ => ⟨bi, oi + ax, rfl, fun j hj => (HBL.out.cell (p := ⟨bi, oi + ax + j, none⟩) (World.block_lt_of_cell? _ _ (hxc j hj))).trans (hxc j hj)⟩
            have bsY : Bs wr (some ⟨bo, oo + ay + 9, none⟩) X := fun _ => ⟨bo, oo + ay + 9, rfl, fun j hj => by
              have hj2 : 9 + j < YL.length := by rw [← hdrop, List.length_drop] at hj; omega
              have h := (HBL.out.cell (p := ⟨bo, oo + ay + (9 + j), none⟩) (World.block_lt_of_cell? _ _ (hyc (9 + j) hj2))).trans (hyc (9 + j) hj2)
              rw [show oo + ay + 9 + j = oo + ay + (9 + j) by omega]
              have e : X.getD j 0 = YL.getD (9 + j) 0 := by rw [← hdrop, List.getD_eq_getElem?_getD, List.getD_eq_getElem?_getD, List.getElem?_drop]
              rw [e]
              exact h⟩
            have bsN : Bs wr (some ⟨bo, oo + ay, none⟩) (YL.take 9) := fun _ => ⟨bo, oo + ay, rfl, fun j hj => by
              have hj9 : j < 9 := by simp at hj; omega
              have h := (HBL.out.cell (p := ⟨bo, oo + ay + j, none⟩) (World.block_lt_of_cell? _ _ (hyc j (by omega)))).trans (hyc j (by omega))
              have e : (YL.take 9).getD j 0 = YL.getD j 0 := by rw [List.getD_eq_getElem?_getD, List.getD_eq_getElem?_getD, List.getElem?_take, if_pos hj9]
              rw [e]
              exact h⟩
            have hXl : X.length = YL.length - 9 := by rw [← hdrop, List.length_drop]
            have hN9 : (YL.take 9).length = 9 := by rw [List.length_take]; omega
            have hv1 : ∀ n, (convert 22 9 (.slice (some ⟨bi, oi + ax, none⟩) X.length (ci - ax))).run Tryz.prog (wr.drewN n) = .ok (.string ⟨X.toArray⟩) (wr.drewN n) := fun n => run_str (bsX.drew n) (ci - ax)
            have hv2 : ∀ n, (convert 22 9 (.slice (some ⟨bo, oo + ay + 9, none⟩) (YL.length - 9) (co - ay - 9))).run Tryz.prog (wr.drewN n) = .ok (.string ⟨X.toArray⟩) (wr.drewN n) := fun n => by rw [← hXl]; exact run_str (bsY.drew n) (co - ay - 9)
            have hv3 : ∀ n, (convert 22 9 (.slice (some ⟨bo, oo + ay, none⟩) 9 (co - ay))).run Tryz.prog (wr.drewN n) = .ok (.string ⟨(YL.take 9).toArray⟩) (wr.drewN n) := fun n => by
              have := run_str (bsN.drew n) (co - ay)
              rw [hN9] at this
              exact this
            have hNLl : NL ≤ inp.length := by rw [← hNL]; exact lines_len inp
            obtain ⟨MM, hMM⟩ : ∃ M, i * Y = M := ⟨_, rfl⟩
            have hMb : MM ≤ 5000 * 9999 := by rw [← hMM]; exact Nat.mul_le_mul (by omega) hY
            have hMI : (i : Int) * (Y : Int) = (MM : Int) := by rw [← hMM]; simp
            rw [hMM] at hval
            have hnv : numVal (YL.take 9) 999999999 = .tuple #[.int .i64 ((V + MM : Nat) : Int), .bool true] := by
              rw [← hval]
              exact numVal_some (by intro e; rw [e] at hN9; simp at hN9) hdig (by have h : Ord.value (YL.take 9) = Wi.value (YL.take 9) := rfl; rw [h, hval]; omega)
            have HM1 : Hid (wrap64 ((i : Int) * (Y : Int)) = (MM : Int)) := Lib.hid (by rw [hMI, w64_in]; omega)
            have HM2b : Hid (IntKind.i64.wrap ((i : Int) * (Y : Int)) = (MM : Int)) := Lib.hid (by rw [hMI, IntKind.wrap_i64]; omega)
            obtain ⟨SV, hSV⟩ : ∃ S : Int, ((V + MM : Nat) : Int) = S := ⟨_, rfl⟩
            have HM3 : Hid (wrap64 ((V : Int) + (MM : Int)) = SV) := Lib.hid (by rw [← hSV, w64_in] <;> omega)
            have HM4 : Hid (IntKind.i64.wrap ((V : Int) + (MM : Int)) = SV) := Lib.hid (by rw [← hSV, IntKind.wrap_i64]; omega)
            rw [hSV] at hnv
            clear hSV
            have HNV := Lib.hid hnv
            have f1 : decide ((YL.length : Int) < 9) = false := by simp; omega
            have f2 : decide (YL.length < 9) = false := by simp; omega
            have f3 : (9 : Int) ≤ YL.length := by omega
            have f4 : 9 ≤ co - ay := by omega
            have g1 : decide ((i : Int) < NL) = true := by simp; omega
            have g2 : decide (i < NL) = true := by simp; omega
            have g3 : (0 : Int) ≤ i := by omega
            have g4 : (i : Int) < NL := by omega
            by_cases f5 : co - ay = 9
            · have h9l : YL.length = 9 := by omega
              obtain rfl : X = [] := List.eq_nil_of_length_eq_zero (by omega)
              have hv0 : ∀ n p c, (convert 22 9 (.slice p 0 c)).run Tryz.prog (wr.drewN n) = .ok (.string ⟨#[]⟩) (wr.drewN n) := fun n p c => run_str (xs := []) (Bs.nil _ p) c
              rw [h9l, f5] at r2
              rw [f5] at hv3
              clear hv1 hv2 f1 f2 f3 f4 h9l f5 h9
              clear hsx hsy hsvx hsvy hvx hvy hgx hgy cellsI cellsO hxc hyc bsX bsY bsN hdig hval hdrop hXl hnv hMM hMI hMb hNLl
              go_upto_region 17 with fail
              go_quiet (fail)
              have hbq : Below w9.heap.size w9 (wr.drewN nq) := HBL.out.trans ((below_drewN wr nq).mono HBL.out.size)
              have hbq2 : Below wb.heap.size wb (wr.drewN nq) := HBL2.out.trans ((below_drewN wr nq).mono HBL2.out.size)
              have r3 : (wr.drewN nq).cell? ⟨gy, i, none⟩ = some (.slice (some ⟨bo, oo + ay, none⟩) 9 9) := r2
              have hv4 := hv3 nq
              have HBQ := Lib.hid hbq
              have HBQ2 := Lib.hid hbq2
              clear r1 r2 hv0 hv3 hbq hbq2
              generalize wr.drewN nq = wq at *
              have hnum := number_any (YL.take 9) 999999999 (by rw [hN9]; decide) (by decide) (by decide) wq (HG.out.below (HB0.out.trans ((HB9.out.trans (HBQ.out.mono HB9.out.size)).mono HB0.out.size)))
              rw [HNV.out] at hnum
              go_wp2_with fail
              refine hnum.mono ?_
              rintro e wz ⟨rfl, hbz⟩
              have HZ1 := Lib.hid (HBQ.out.trans (hbz.mono HBQ.out.size))
              have HZ2 := Lib.hid (HBQ2.out.trans (hbz.mono HBQ2.out.size))
              clear hnum hbz
              have m1 := HM1.out
              have m2 := HM2b.out
              have m3 := HM3.out
              have m4 := HM4.out
              go_wp2_with fail
              go_roundw
              case rel => exact ⟨i + 1, by omega, by go_num, HZ1, HZ2⟩
              case measure => simp [intOf]; omega
            · have f6 : ¬ co - ay - 9 = 0 := by omega
              have f7 : ¬ co - ay ≤ 9 := by omega
              clear hsx hsy hsvx hsvy hvx hvy hgx hgy cellsI cellsO hxc hyc bsX bsY bsN hdig hval hdrop hXl hnv hMM hMI hMb hNLl
              go_upto_region 17 with fail
              go_quiet (fail)
              have hbq : Below w9.heap.size w9 (wr.drewN nq) := HBL.out.trans ((below_drewN wr nq).mono HBL.out.size)
              have hbq2 : Below wb.heap.size wb (wr.drewN nq) := HBL2.out.trans ((below_drewN wr nq).mono HBL2.out.size)
              have r3 : (wr.drewN nq).cell? ⟨gy, i, none⟩ = some (.slice (some ⟨bo, oo + ay, none⟩) YL.length (co - ay)) := r2
              have hv4 := hv3 nq
              have HBQ := Lib.hid hbq
              have HBQ2 := Lib.hid hbq2
              clear r1 r2 hv1 hv2 hv3 hbq hbq2
              generalize wr.drewN nq = wq at *
              have hnum := number_any (YL.take 9) 999999999 (by rw [hN9]; decide) (by decide) (by decide) wq (HG.out.below (HB0.out.trans ((HB9.out.trans (HBQ.out.mono HB9.out.size)).mono HB0.out.size)))
              rw [HNV.out] at hnum
              go_wp2_with fail
              refine hnum.mono ?_
              rintro e wz ⟨rfl, hbz⟩
              have HZ1 := Lib.hid (HBQ.out.trans (hbz.mono HBQ.out.size))
              have HZ2 := Lib.hid (HBQ2.out.trans (hbz.mono HBQ2.out.size))
              clear hnum hbz
              have m1 := HM1.out
              have m2 := HM2b.out
              have m3 := HM3.out
              have m4 := HM4.out
              go_wp2_with fail
              go_roundw
              case rel => exact ⟨i + 1, by omega, by go_num, HZ1, HZ2⟩
              case measure => simp [intOf]; omega
          · obtain rfl : i = NL := by omega
            have g1 : decide ((i : Int) < i) = false := by simp
            go_wp2_with fail
            go_ret
            exact ⟨rfl, HFIN.out.trans (HBL.out.mono HFIN.out.size)⟩

end Go.Proofs.YtbpcfjoebfbjmaaGreatDoor
