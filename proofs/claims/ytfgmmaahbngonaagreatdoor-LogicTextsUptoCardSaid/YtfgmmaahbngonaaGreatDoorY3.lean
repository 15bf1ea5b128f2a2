/-
  Texts of this seat put together: LgFind, L24, L24a, L24b, L24c, L24d, L25.
-/
import Derived.Test.YtfgmmaahbngonaaGreatDoorQ25
import Derived.Test.YtfgmmaahbngonaaGreatDoorQ28

/-
  What the expression that takes all finds: all. No program in sight (but the spec of found). No condition.
-/
namespace Go.Proofs.YtfgmmaahbngonaaGreatDoor
open Go

section
open Rg.Mx
variable (a b c d : St) (ha : a.kind = 4) (hb : b.kind = 1) (hbt : b.to = 2) (hbo : b.or = 0) (hc : c.kind = 0) (hct : c.to = 1) (hch : ∀ x, c.has x = true) (hd : d.kind = 2) (hdt : d.to = 1)
include ha hb hbt hbo hc hd hdt in
theorem put_start (size : Nat) : put [a, b, c, d] (zero [a, b, c, d]) 3 0 size = ⟨[2, 0], [1, 1, 1, 1]⟩ := by
  simp [put, fuel, putF, onto, stays, zero, ha, hb, hbt, hbo, hc, hd, hdt, List.replicate]
include ha hb hbt hbo hc in
theorem put_one (e0 e1 e2 e3 at_ size : Nat) (h0 : e0 ≠ at_ + 1) (h1 : e1 ≠ at_ + 1) (h2 : e2 ≠ at_ + 1) : put [a, b, c, d] ⟨[], [e0, e1, e2, e3]⟩ 1 at_ size = ⟨[2, 0], [at_ + 1, at_ + 1, at_ + 1, e3]⟩ := by
  simp [put, fuel, putF, onto, stays, ha, hb, hbt, hbo, hc, h0, h1, h2]
include ha hb hbt hbo hc hct hch in
theorem round_in (s : Rg.Rx.Bytes) (at_ e0 e1 e2 e3 : Nat) (last : Option Nat) (h : at_ < s.length) (h0 : e0 ≤ at_ + 1) (h1 : e1 ≤ at_ + 1) (h2 : e2 ≤ at_ + 1) :
    round [a, b, c, d] s at_ [2, 0] ⟨[], [e0, e1, e2, e3]⟩ last = (⟨[2, 0], [at_ + 2, at_ + 2, at_ + 2, e3]⟩, some at_) := by
  rw [round, if_neg (by simp [hc]), dif_pos h, if_pos (by simp [hch])]
  have hp := put_one a b c d ha hb hbt hbo hc e0 e1 e2 e3 (at_ + 1) s.length (by omega) (by omega) (by omega)
  rw [show (([a, b, c, d] : List St).getD 2 default).to = 1 by simp [hct], hp, round, if_pos (by simp [ha]), round]
include ha hc in
theorem round_end (s : Rg.Rx.Bytes) (x : Run) (last : Option Nat) : (round [a, b, c, d] s s.length [2, 0] x last).2 = some s.length := by
  rw [round, if_neg (by simp [hc]), dif_neg (by omega), round, if_pos (by simp [ha]), round]
include ha hb hbt hbo hc hct hch in
theorem run_all (s : Rg.Rx.Bytes) : ∀ (f at_ : Nat) (now next : Run) (last : Option Nat) (e0 e1 e2 e3 g0 g1 g2 g3 : Nat), f = s.length - at_ → at_ ≤ s.length → now.l = [2, 0] → now.has = [g0, g1, g2, g3] → next.has = [e0, e1, e2, e3] →
    (g0 ≤ at_ + 2 ∧ g1 ≤ at_ + 2 ∧ g2 ≤ at_ + 2) → (e0 ≤ at_ + 1 ∧ e1 ≤ at_ + 1 ∧ e2 ≤ at_ + 1) → run [a, b, c, d] s (f + 1) at_ now next last = some s.length := by
  intro f
  induction f with
  | zero =>
    intro at_ now next last e0 e1 e2 e3 g0 g1 g2 g3 hf hat hnow hg he _ _
    obtain rfl : at_ = s.length := by omega
    rw [run, if_neg (by rw [hnow]; simp)]
    simp only [hnow, if_true]
    exact round_end a b c d ha hc s _ _
  | succ f ih =>
    intro at_ now next last e0 e1 e2 e3 g0 g1 g2 g3 hf hat hnow hg he hgb heb
    have hlt : at_ < s.length := by omega
    rw [run, if_neg (by rw [hnow]; simp)]
    simp only [hnow, he]
    rw [round_in a b c d ha hb hbt hbo hc hct hch s at_ e0 e1 e2 e3 last hlt heb.1 heb.2.1 heb.2.2]
    simp only
    rw [if_neg (by omega)]
    exact ih (at_ + 1) _ now _ g0 g1 g2 g3 (at_ + 2) (at_ + 2) (at_ + 2) e3 (by omega) (by omega) rfl rfl hg (by omega) (by omega)
include ha hb hbt hbo hc hct hch hd hdt in
theorem find_all (s : Rg.Rx.Bytes) : find [a, b, c, d] 3 s 0 = some (0, s.length) := by
  unfold find
  rw [findF, if_neg (by omega)]
  have h : longest [a, b, c, d] 3 s 0 = some s.length := by
    unfold longest
    rw [put_start a b c d ha hb hbt hbo hc hd hdt]
    exact run_all a b c d ha hb hbt hbo hc hct hch s (s.length - 0) 0 _ _ none 0 0 0 0 1 1 1 1 rfl (by omega) rfl rfl rfl (by omega) (by omega)
  rw [h]
end

theorem any_facts : (match Rg.Rx.read ([94, 92, 40] ++ [46, 42] ++ [92, 41]) false false with
    | none => false
    | some n => decide (n.size ≤ 10000) && ((Rg.progOf n).1 == 3) && ((Rg.progOf n).2.map (fun (s : Rg.Mx.St) => (s.kind, s.to, s.or)) == [(4, 0, 0), (1, 2, 0), (0, 1, 0), (2, 1, 0)]) && (List.range 256).all (fun c => ((Rg.progOf n).2.getD 2 default).has (UInt8.ofNat c))) = true := by decide +kernel
theorem found_all (s : Bts) : foundF s [46, 42] = some (.ok (Lib.itoa s.length)) := by
  have hf := any_facts
  unfold foundF
  cases hr : Rg.Rx.read ([94, 92, 40] ++ [46, 42] ++ [92, 41]) false false with
  | none => rw [hr] at hf; cases hf
  | some n =>
    rw [hr] at hf
    simp only [Bool.and_eq_true, decide_eq_true_eq, beq_iff_eq, List.all_eq_true, List.mem_range] at hf
    obtain ⟨⟨⟨h1, h2⟩, h3⟩, h4⟩ := hf
    simp only
    rw [if_neg (by omega), h2]
    generalize (Rg.progOf n).2 = P at *
    match P, h3, h4 with
    | [], h3, _ => simp at h3
    | [_], h3, _ => simp at h3
    | [_, _], h3, _ => simp at h3
    | [_, _, _], h3, _ => simp at h3
    | [a, b, c, d], h3, h4 =>
      simp only [List.map_cons, List.map_nil, List.cons.injEq, Prod.mk.injEq, and_true] at h3
      obtain ⟨⟨a1, -, -⟩, ⟨b1, b2, b3⟩, ⟨c1, c2, -⟩, d1, d2, -⟩ := h3
      have hch : ∀ x, c.has x = true := fun x => by
        have := h4 x.toNat x.toNat_lt
        simpa using this
      rw [if_pos (by simp), find_all a b c d a1 b1 b2 b3 c1 c2 hch d1 d2 s]
    | _ :: _ :: _ :: _ :: _ :: _, h3, _ => simp at h3

end Go.Proofs.YtfgmmaahbngonaaGreatDoor

/-
  LogicTexts: what expr tells of texts that begin with a letter. No condition but these.
-/
namespace Go.Proofs.YtfgmmaahbngonaaGreatDoor
open Go.RowKit Go.Shelf Go.Maps

theorem cmp_law : ∀ (a b : Bts), (Lib.compareBytes a b = 0 ↔ a = b) ∧ (Lib.compareBytes a b < 0 ↔ Op.bytesLess a b = true)
  | [], [] => by simp [Lib.compareBytes, Op.bytesLess]
  | [], _ :: _ => by simp [Lib.compareBytes, Op.bytesLess]
  | _ :: _, [] => by simp [Lib.compareBytes, Op.bytesLess]
  | x :: a, y :: b => by
    obtain ⟨h1, h2⟩ := cmp_law a b
    rw [Lib.compareBytes, Op.bytesLess]
    by_cases hx : x < y
    · have hne : x ≠ y := fun e => by subst e; exact absurd hx (UInt8.lt_irrefl _)
      simp [hx, hne]
    · by_cases hy : y < x
      · have hne : x ≠ y := fun e => by subst e; exact absurd hy (UInt8.lt_irrefl _)
        simp [hx, hy, hne]
      · have he : x = y := UInt8.le_antisymm (UInt8.not_lt.1 hy) (UInt8.not_lt.1 hx)
        subst he
        simp [hx, h1, h2]
theorem op_eqT {s : Bts} (t : Bts) (h : Lg.Begins s) : Lg.op foundF [61] s t = some (.ok (if s = t then [49] else [48])) := by
  unfold Lg.op
  rw [if_neg (by decide), if_neg (by decide), if_neg (by decide), if_neg (by decide), if_neg (by decide), if_neg (by decide), if_neg (by decide), if_neg (by decide)]
  rw [show Lg.place Lg.xnames [61] = some 0 from rfl]
  simp only [Lg.nums_letter t h, Lg.cmpK, Lg.cmpB, beq_iff_eq, (cmp_law s t).1]
theorem op_ltT {s : Bts} (t : Bts) (h : Lg.Begins s) : Lg.op foundF [60] s t = some (.ok (if Op.bytesLess s t = true then [49] else [48])) := by
  unfold Lg.op
  rw [if_neg (by decide), if_neg (by decide), if_neg (by decide), if_neg (by decide), if_neg (by decide), if_neg (by decide), if_neg (by decide), if_neg (by decide)]
  rw [show Lg.place Lg.xnames [60] = some 4 from rfl]
  simp only [Lg.nums_letter t h, Lg.cmpK, Lg.cmpB, decide_eq_true_eq, (cmp_law s t).2]
theorem op_orT {s : Bts} (t : Bts) (h : Lg.Begins s) : Lg.op foundF [124] s t = some (.ok s) := by
  unfold Lg.op
  rw [if_pos rfl, Lg.null_letter h]
  rfl
theorem op_or0 {t : Bts} (h : Lg.Begins t) : Lg.op foundF [124] [] t = some (.ok t) := by
  unfold Lg.op
  rw [if_pos rfl, Lg.begins_ne h]
  rfl
theorem op_andT {s t : Bts} (h : Lg.Begins s) (h' : Lg.Begins t) : Lg.op foundF [38] s t = some (.ok s) := by
  unfold Lg.op
  rw [if_neg (by decide), if_pos rfl, Lg.null_letter h, Lg.null_letter h']
  rfl
theorem op_and0 (s : Bts) : Lg.op foundF [38] s [48] = some (.ok [48]) := by
  unfold Lg.op
  rw [if_neg (by decide), if_pos rfl, show Lg.null [48] = true by decide, Bool.or_true]
  rfl
theorem op_colT (s : Bts) : Lg.op foundF [58] s [46, 42] = some (.ok (Lib.itoa s.length)) := by
  unfold Lg.op
  rw [if_neg (by decide), if_neg (by decide), if_pos rfl, found_all]
section
variable {s t : Bts} (hs : Lg.Begins s) (ht : Lg.Begins t) (ls : s.length ≤ 100000000) (lt : t.length ≤ 100000000)
include hs ht ls lt
theorem tx_eq (z : Bts) (hz : (if s = t then [49] else [48]) = z) : Lg.Tells foundF [s, [61], t] (.ok z) := Lg.Tells.two (Lg.free_letter hs) (Lg.free_letter ht) ls lt (by decide) (by decide) (by rw [op_eqT t hs, hz])
theorem tx_lt (z : Bts) (hz : (if Op.bytesLess s t = true then [49] else [48]) = z) : Lg.Tells foundF [s, [60], t] (.ok z) := Lg.Tells.two (Lg.free_letter hs) (Lg.free_letter ht) ls lt (by decide) (by decide) (by rw [op_ltT t hs, hz])
theorem tx_or : Lg.Tells foundF [s, [124], t] (.ok s) := Lg.Tells.two (Lg.free_letter hs) (Lg.free_letter ht) ls lt (by decide) (by decide) (op_orT t hs)
theorem tx_and : Lg.Tells foundF [s, [38], t] (.ok s) := Lg.Tells.two (Lg.free_letter hs) (Lg.free_letter ht) ls lt (by decide) (by decide) (op_andT hs ht)
end
theorem tx_or0 {t : Bts} (ht : Lg.Begins t) (lt : t.length ≤ 100000000) : Lg.Tells foundF [[], [124], t] (.ok t) := Lg.Tells.two (free_lit (by decide)) (Lg.free_letter ht) (by decide) lt (by decide) (by decide) (op_or0 ht)
theorem tx_and0 {s : Bts} (hs : Lg.Begins s) (ls : s.length ≤ 100000000) : Lg.Tells foundF [s, [38], [48]] (.ok [48]) := Lg.Tells.two (Lg.free_letter hs) (free_lit (by decide)) ls (by decide) (by decide) (by decide) (op_and0 s)
theorem tx_col {s : Bts} (hs : Lg.Begins s) (ls : s.length ≤ 100000000) : Lg.Tells foundF [s, [58], [46, 42]] (.ok (Lib.itoa s.length)) := Lg.Tells.two (Lg.free_letter hs) (free_lit (by decide)) ls (by decide) (by decide) (by decide) (op_colT s)

end Go.Proofs.YtfgmmaahbngonaaGreatDoor

/-
  The walk of LogicTexts: what begins with no letter. Conditions: what the library's variables hold; lengths.
-/
namespace Go.Proofs.YtfgmmaahbngonaaGreatDoor
open Go.RowKit Go.Shelf Go.Maps

set_option maxRecDepth 100000 in
set_option maxHeartbeats 8000000 in
theorem texts_out (c d : UInt8) (r q : Bts) (ls : (c :: r).length ≤ 100000000) (lt : (d :: q).length ≤ 100000000) (hc : ((c.toNat : Int) < 97 ∨ (122 : Int) < c.toNat) ∨ (d.toNat : Int) < 97 ∨ (122 : Int) < d.toNat) (w : World) (hg : GloL w) :
    Calls Tryz.prog 5 #[.string ⟨(c :: r).toArray⟩, .string ⟨(d :: q).toArray⟩] w fun e w' => e = .returned (.bool true) ∧ Below w.heap.size w w' := by
  have haw := awake_any w hg
  have HG := Lib.hid hg
  clear hg
  have HLS := Lib.hid (And.intro ls lt)
  clear ls lt
  generalize hs : c :: r = s at *
  generalize ht : d :: q = t at *
  have gs : ∀ h, (⟨s.toArray⟩ : ByteArray)[0]'h = c := by subst hs; intro h; rfl
  have gt : ∀ h, (⟨t.toArray⟩ : ByteArray)[0]'h = d := by subst ht; intro h; rfl
  have ns : (s == []) = false := by simp [← hs]
  have nt : (t == []) = false := by simp [← ht]
  have ms : ¬ s = [] := by simp [← hs]
  have mt : ¬ t = [] := by simp [← ht]
  have ps : 0 < s.length := by simp [← hs]
  have pt : 0 < t.length := by simp [← ht]
  clear hs ht
  by_cases c1 : (c.toNat : Int) < 97
  · have e1 : decide ((c.toNat : Int) < 97) = true := decide_eq_true c1
    clear hc c1
    go_enter Tryz.func5, Tryz.ntmps5
    go_wp2_with fail
    refine haw.mono ?_
    rintro e w0 ⟨rfl, hb⟩
    have HX0 := Lib.hid hb
    clear haw hb
    go_wp2_with fail
    go_ret
    exact ⟨rfl, HX0.out⟩
  by_cases c2 : (122 : Int) < c.toNat
  · have e1 : decide ((c.toNat : Int) < 97) = false := decide_eq_false c1
    have f1 : ¬ (c.toNat : Int) < 97 := c1
    have e2 : decide ((122 : Int) < c.toNat) = true := decide_eq_true c2
    clear hc c1 c2
    go_enter Tryz.func5, Tryz.ntmps5
    go_wp2_with fail
    refine haw.mono ?_
    rintro e w0 ⟨rfl, hb⟩
    have HX0 := Lib.hid hb
    clear haw hb
    go_wp2_with fail
    go_ret
    exact ⟨rfl, HX0.out⟩
  by_cases c3 : (d.toNat : Int) < 97
  · have e1 : decide ((c.toNat : Int) < 97) = false := decide_eq_false c1
    have f1 : ¬ (c.toNat : Int) < 97 := c1
    have e2 : decide ((122 : Int) < c.toNat) = false := decide_eq_false c2
    have f2 : ¬ (122 : Int) < c.toNat := c2
    have e3 : decide ((d.toNat : Int) < 97) = true := decide_eq_true c3
    clear hc c1 c2 c3
    go_enter Tryz.func5, Tryz.ntmps5
    go_wp2_with fail
    refine haw.mono ?_
    rintro e w0 ⟨rfl, hb⟩
    have HX0 := Lib.hid hb
    clear haw hb
    go_wp2_with fail
    go_ret
    exact ⟨rfl, HX0.out⟩
  by_cases c4 : (122 : Int) < d.toNat
  · have e1 : decide ((c.toNat : Int) < 97) = false := decide_eq_false c1
    have f1 : ¬ (c.toNat : Int) < 97 := c1
    have e2 : decide ((122 : Int) < c.toNat) = false := decide_eq_false c2
    have f2 : ¬ (122 : Int) < c.toNat := c2
    have e3 : decide ((d.toNat : Int) < 97) = false := decide_eq_false c3
    have f3 : ¬ (d.toNat : Int) < 97 := c3
    have e4 : decide ((122 : Int) < d.toNat) = true := decide_eq_true c4
    clear hc c1 c2 c3 c4
    go_enter Tryz.func5, Tryz.ntmps5
    go_wp2_with fail
    refine haw.mono ?_
    rintro e w0 ⟨rfl, hb⟩
    have HX0 := Lib.hid hb
    clear haw hb
    go_wp2_with fail
    go_ret
    exact ⟨rfl, HX0.out⟩
  exact absurd hc (by simp only [not_or]; exact ⟨⟨c1, c2⟩, c3, c4⟩)

set_option maxRecDepth 100000 in
set_option maxHeartbeats 8000000 in
theorem texts_none (t : Bts) (w : World) (hg : GloL w) :
    Calls Tryz.prog 5 #[.string ⟨#[]⟩, .string ⟨t.toArray⟩] w fun e w' => e = .returned (.bool true) ∧ Below w.heap.size w w' := by
  have haw := awake_any w hg
  clear hg
  go_enter Tryz.func5, Tryz.ntmps5
  go_wp2_with fail
  refine haw.mono ?_
  rintro e w0 ⟨rfl, hb⟩
  have HX0 := Lib.hid hb
  clear haw hb
  go_wp2_with fail
  go_ret
  exact ⟨rfl, HX0.out⟩

set_option maxRecDepth 100000 in
set_option maxHeartbeats 8000000 in
theorem texts_none2 (s : Bts) (hs : s ≠ []) (w : World) (hg : GloL w) :
    Calls Tryz.prog 5 #[.string ⟨s.toArray⟩, .string ⟨#[]⟩] w fun e w' => e = .returned (.bool true) ∧ Below w.heap.size w w' := by
  have haw := awake_any w hg
  have ns : (s == []) = false := by simpa using hs
  have ms : ¬ s = [] := hs
  clear hg hs
  go_enter Tryz.func5, Tryz.ntmps5
  go_wp2_with fail
  refine haw.mono ?_
  rintro e w0 ⟨rfl, hb⟩
  have HX0 := Lib.hid hb
  clear haw hb
  go_wp2_with fail
  go_ret
  exact ⟨rfl, HX0.out⟩

end Go.Proofs.YtfgmmaahbngonaaGreatDoor

/-
  The walk of LogicTexts, one of three cases. Conditions: what the library's variables hold; lengths.
-/
namespace Go.Proofs.YtfgmmaahbngonaaGreatDoor
open Go.RowKit Go.Shelf Go.Maps

set_option maxRecDepth 100000 in
set_option maxHeartbeats 8000000 in
theorem texts_eq (c d : UInt8) (r q : Bts) (ls : (c :: r).length ≤ 100000000) (lt : (d :: q).length ≤ 100000000) (bs : Lg.Begins (c :: r)) (bt : Lg.Begins (d :: q)) (c1 : ¬ (c.toNat : Int) < 97) (c2 : ¬ (122 : Int) < c.toNat) (c3 : ¬ (d.toNat : Int) < 97) (c4 : ¬ (122 : Int) < d.toNat) (hc : c :: r = d :: q) (w : World) (hg : GloL w) :
    Calls Tryz.prog 5 #[.string ⟨(c :: r).toArray⟩, .string ⟨(d :: q).toArray⟩] w fun e w' => e = .returned (.bool true) ∧ Below w.heap.size w w' := by
  have haw := awake_any w hg
  have HG := Lib.hid hg
  clear hg
  have e1 : decide ((c.toNat : Int) < 97) = false := decide_eq_false c1
  have f1 : ¬ (c.toNat : Int) < 97 := c1
  have e2 : decide ((122 : Int) < c.toNat) = false := decide_eq_false c2
  have f2 : ¬ (122 : Int) < c.toNat := c2
  have e3 : decide ((d.toNat : Int) < 97) = false := decide_eq_false c3
  have f3 : ¬ (d.toNat : Int) < 97 := c3
  have e4 : decide ((122 : Int) < d.toNat) = false := decide_eq_false c4
  have f4 : ¬ (122 : Int) < d.toNat := c4
  clear c1 c2 c3 c4
  have hl : Op.bytesLess (c :: r) (d :: q) = false := by
    rw [← hc]
    cases hb : Op.bytesLess (c :: r) (c :: r) with
    | false => rfl
    | true =>
      have h1 := (cmp_law (c :: r) (c :: r)).1.2 rfl
      have h2 := (cmp_law (c :: r) (c :: r)).2.2 hb
      omega
  have TL0 := Lib.hid (tx_eq bs bt ls lt [49] (by rw [if_pos hc]))
  have TL1 := Lib.hid (tx_lt bs bt ls lt [48] (by rw [hl]; rfl))
  have TL2 := Lib.hid (tx_or bs bt ls lt)
  have TL3 := Lib.hid (tx_or0 bt lt)
  have TL4 := Lib.hid (tx_and bs bt ls lt)
  have TL5 := Lib.hid (tx_and0 bs ls)
  have TL6 := Lib.hid (tx_col bs ls)
  have HD := Lib.hid (fun w => digits_any ((c :: r).length : Int) (by omega) (by omega) w)
  have HZ : Hid ((Lib.itoa ((c :: r).length : Int)).length ≤ 100) := Lib.hid (itoa_le (by omega) (by omega))
  clear bs bt
  have HLS := Lib.hid (And.intro ls lt)
  clear ls lt
  generalize hs : c :: r = s at *
  generalize ht : d :: q = t at *
  have gs : ∀ h, (⟨s.toArray⟩ : ByteArray)[0]'h = c := by subst hs; intro h; rfl
  have gt : ∀ h, (⟨t.toArray⟩ : ByteArray)[0]'h = d := by subst ht; intro h; rfl
  have ns : (s == []) = false := by simp [← hs]
  have nt : (t == []) = false := by simp [← ht]
  have ms : ¬ s = [] := by simp [← hs]
  have mt : ¬ t = [] := by simp [← ht]
  have ps : 0 < s.length := by simp [← hs]
  have pt : 0 < t.length := by simp [← ht]
  clear hs ht
  subst hc
  clear gt nt mt pt
  have ks : ¬ 9223372036854775807 < s.length + 1 := by have := HLS.out; omega
  generalize Lib.itoa (s.length : Int) = Z at *
  have kz : ¬ 9223372036854775807 < Z.length + 1 := by have := HZ.out; omega
  have l1 := line_eq s
  have l3 := line_eq Z
  generalize hR1 : s ++ [10] = R1 at *
  generalize hR3 : Z ++ [10] = R3 at *
  have HR1 := Lib.hid hR1
  have HR3 := Lib.hid hR3
  clear hR1 hR3
  go_enter Tryz.func5, Tryz.ntmps5
  go_wp2_with fail
  refine haw.mono ?_
  rintro e x0 ⟨rfl, hb⟩
  have HX0 := Lib.hid hb
  clear haw hb
  have hcl : Calls Tryz.prog 9 #[.slice (some ⟨x0.heap.size, 0, none⟩) 3 3] (x0.alloc (.cells #[.string ⟨s.toArray⟩, .string ⟨#[61]⟩, .string ⟨s.toArray⟩] 9)) fun e w' => e = .returned (.string ⟨#[49, 10]⟩) ∧ Below x0.heap.size x0 w' := by
    exact line_lit [s, [61], s] _ rfl (by simp) (by simp) [49] TL0.out (len3 HLS.out.1 (by decide) HLS.out.2) (by decide) x0 (HG.out.below HX0.out)
  go_wp2_with fail
  refine hcl.mono ?_
  rintro e x1 ⟨rfl, hb⟩
  have HX1 := Lib.hid (HX0.out.trans (hb.mono HX0.out.size))
  clear hcl hb
  have hcl : Calls Tryz.prog 9 #[.slice (some ⟨x1.heap.size, 0, none⟩) 3 3] (x1.alloc (.cells #[.string ⟨s.toArray⟩, .string ⟨#[60]⟩, .string ⟨s.toArray⟩] 9)) fun e w' => e = .returned (.string ⟨#[48, 10]⟩) ∧ Below x1.heap.size x1 w' := by
    exact line_lit [s, [60], s] _ rfl (by simp) (by simp) [48] TL1.out (len3 HLS.out.1 (by decide) HLS.out.2) (by decide) x1 (HG.out.below HX1.out)
  go_wp2_with fail
  refine hcl.mono ?_
  rintro e x2 ⟨rfl, hb⟩
  have HX2 := Lib.hid (HX1.out.trans (hb.mono HX1.out.size))
  clear hcl hb
  have hcl : Calls Tryz.prog 9 #[.slice (some ⟨x2.heap.size, 0, none⟩) 3 3] (x2.alloc (.cells #[.string ⟨s.toArray⟩, .string ⟨#[124]⟩, .string ⟨s.toArray⟩] 9)) fun e w' => e = .returned (.string ⟨R1.toArray⟩) ∧ Below x2.heap.size x2 w' := by
    rw [← HR1.out]
    exact line_lit [s, [124], s] _ rfl (by simp) (by simp) s TL2.out (len3 HLS.out.1 (by decide) HLS.out.2) (by have := HLS.out; omega) x2 (HG.out.below HX2.out)
  go_wp2_with fail
  refine hcl.mono ?_
  rintro e x3 ⟨rfl, hb⟩
  have HX3 := Lib.hid (HX2.out.trans (hb.mono HX2.out.size))
  clear hcl hb
  have hcl : Calls Tryz.prog 9 #[.slice (some ⟨x3.heap.size, 0, none⟩) 3 3] (x3.alloc (.cells #[.string ⟨#[]⟩, .string ⟨#[124]⟩, .string ⟨s.toArray⟩] 9)) fun e w' => e = .returned (.string ⟨R1.toArray⟩) ∧ Below x3.heap.size x3 w' := by
    rw [← HR1.out]
    exact line_lit [[], [124], s] _ rfl (by simp) (by simp) s TL3.out (len3 (by decide) (by decide) HLS.out.2) (by have := HLS.out; omega) x3 (HG.out.below HX3.out)
  go_wp2_with fail
  refine hcl.mono ?_
  rintro e x4 ⟨rfl, hb⟩
  have HX4 := Lib.hid (HX3.out.trans (hb.mono HX3.out.size))
  clear hcl hb
  have hcl : Calls Tryz.prog 9 #[.slice (some ⟨x4.heap.size, 0, none⟩) 3 3] (x4.alloc (.cells #[.string ⟨s.toArray⟩, .string ⟨#[38]⟩, .string ⟨s.toArray⟩] 9)) fun e w' => e = .returned (.string ⟨R1.toArray⟩) ∧ Below x4.heap.size x4 w' := by
    rw [← HR1.out]
    exact line_lit [s, [38], s] _ rfl (by simp) (by simp) s TL4.out (len3 HLS.out.1 (by decide) HLS.out.2) (by have := HLS.out; omega) x4 (HG.out.below HX4.out)
  go_wp2_with fail
  refine hcl.mono ?_
  rintro e x5 ⟨rfl, hb⟩
  have HX5 := Lib.hid (HX4.out.trans (hb.mono HX4.out.size))
  clear hcl hb
  have hcl : Calls Tryz.prog 9 #[.slice (some ⟨x5.heap.size, 0, none⟩) 3 3] (x5.alloc (.cells #[.string ⟨s.toArray⟩, .string ⟨#[38]⟩, .string ⟨#[48]⟩] 9)) fun e w' => e = .returned (.string ⟨#[48, 10]⟩) ∧ Below x5.heap.size x5 w' := by
    exact line_lit [s, [38], [48]] _ rfl (by simp) (by simp) [48] TL5.out (len3 HLS.out.1 (by decide) (by decide)) (by decide) x5 (HG.out.below HX5.out)
  go_wp2_with fail
  refine hcl.mono ?_
  rintro e x6 ⟨rfl, hb⟩
  have HX6 := Lib.hid (HX5.out.trans (hb.mono HX5.out.size))
  clear hcl hb
  have hcl : Calls Tryz.prog 9 #[.slice (some ⟨x6.heap.size, 0, none⟩) 3 3] (x6.alloc (.cells #[.string ⟨s.toArray⟩, .string ⟨#[58]⟩, .string ⟨#[46, 42]⟩] 9)) fun e w' => e = .returned (.string ⟨R3.toArray⟩) ∧ Below x6.heap.size x6 w' := by
    rw [← HR3.out]
    exact line_lit [s, [58], [46, 42]] _ rfl (by simp) (by simp) Z TL6.out (len3 HLS.out.1 (by decide) (by decide)) (by have := HZ.out; omega) x6 (HG.out.below HX6.out)
  go_wp2_with fail
  refine hcl.mono ?_
  rintro e x7 ⟨rfl, hb⟩
  have HX7 := Lib.hid (HX6.out.trans (hb.mono HX6.out.size))
  clear hcl hb
  have hd := HD.out x7 (HG.out.below HX7.out).glo
  go_wp2_with fail
  refine hd.mono ?_
  rintro e x8 ⟨rfl, hb⟩
  have HX8 := Lib.hid (HX7.out.trans (hb.mono HX7.out.size))
  clear hd hb
  go_wp2_with fail
  go_ret
  exact ⟨rfl, HX8.out⟩

end Go.Proofs.YtfgmmaahbngonaaGreatDoor

/-
  The walk of LogicTexts, one of three cases. Conditions: what the library's variables hold; lengths.
-/
namespace Go.Proofs.YtfgmmaahbngonaaGreatDoor
open Go.RowKit Go.Shelf Go.Maps

set_option maxRecDepth 100000 in
set_option maxHeartbeats 8000000 in
theorem texts_lt (c d : UInt8) (r q : Bts) (ls : (c :: r).length ≤ 100000000) (lt : (d :: q).length ≤ 100000000) (bs : Lg.Begins (c :: r)) (bt : Lg.Begins (d :: q)) (c1 : ¬ (c.toNat : Int) < 97) (c2 : ¬ (122 : Int) < c.toNat) (c3 : ¬ (d.toNat : Int) < 97) (c4 : ¬ (122 : Int) < d.toNat) (hc : c :: r ≠ d :: q) (hl : Op.bytesLess (c :: r) (d :: q) = true) (w : World) (hg : GloL w) :
    Calls Tryz.prog 5 #[.string ⟨(c :: r).toArray⟩, .string ⟨(d :: q).toArray⟩] w fun e w' => e = .returned (.bool true) ∧ Below w.heap.size w w' := by
  have haw := awake_any w hg
  have HG := Lib.hid hg
  clear hg
  have e1 : decide ((c.toNat : Int) < 97) = false := decide_eq_false c1
  have f1 : ¬ (c.toNat : Int) < 97 := c1
  have e2 : decide ((122 : Int) < c.toNat) = false := decide_eq_false c2
  have f2 : ¬ (122 : Int) < c.toNat := c2
  have e3 : decide ((d.toNat : Int) < 97) = false := decide_eq_false c3
  have f3 : ¬ (d.toNat : Int) < 97 := c3
  have e4 : decide ((122 : Int) < d.toNat) = false := decide_eq_false c4
  have f4 : ¬ (122 : Int) < d.toNat := c4
  clear c1 c2 c3 c4
  have TL0 := Lib.hid (tx_eq bs bt ls lt [48] (by rw [if_neg hc]))
  have TL1 := Lib.hid (tx_lt bs bt ls lt [49] (by rw [if_pos hl]))
  have TL2 := Lib.hid (tx_or bs bt ls lt)
  have TL3 := Lib.hid (tx_or0 bt lt)
  have TL4 := Lib.hid (tx_and bs bt ls lt)
  have TL5 := Lib.hid (tx_and0 bs ls)
  have TL6 := Lib.hid (tx_col bs ls)
  have HD := Lib.hid (fun w => digits_any ((c :: r).length : Int) (by omega) (by omega) w)
  have HZ : Hid ((Lib.itoa ((c :: r).length : Int)).length ≤ 100) := Lib.hid (itoa_le (by omega) (by omega))
  clear bs bt
  have HLS := Lib.hid (And.intro ls lt)
  clear ls lt
  generalize hs : c :: r = s at *
  generalize ht : d :: q = t at *
  have gs : ∀ h, (⟨s.toArray⟩ : ByteArray)[0]'h = c := by subst hs; intro h; rfl
  have gt : ∀ h, (⟨t.toArray⟩ : ByteArray)[0]'h = d := by subst ht; intro h; rfl
  have ns : (s == []) = false := by simp [← hs]
  have nt : (t == []) = false := by simp [← ht]
  have ms : ¬ s = [] := by simp [← hs]
  have mt : ¬ t = [] := by simp [← ht]
  have ps : 0 < s.length := by simp [← hs]
  have pt : 0 < t.length := by simp [← ht]
  clear hs ht
  have x1 : (s == t) = false := by simpa using hc
  have x2 : ¬ s = t := hc
  clear hc
  have ks : ¬ 9223372036854775807 < s.length + 1 := by have := HLS.out; omega
  have kt : ¬ 9223372036854775807 < t.length + 1 := by have := HLS.out; omega
  generalize Lib.itoa (s.length : Int) = Z at *
  have kz : ¬ 9223372036854775807 < Z.length + 1 := by have := HZ.out; omega
  have l1 := line_eq s
  have l2 := line_eq t
  have l3 := line_eq Z
  generalize hR1 : s ++ [10] = R1 at *
  generalize hR2 : t ++ [10] = R2 at *
  generalize hR3 : Z ++ [10] = R3 at *
  have HR1 := Lib.hid hR1
  have HR2 := Lib.hid hR2
  have HR3 := Lib.hid hR3
  clear hR1 hR2 hR3
  go_enter Tryz.func5, Tryz.ntmps5
  go_wp2_with fail
  refine haw.mono ?_
  rintro e x0 ⟨rfl, hb⟩
  have HX0 := Lib.hid hb
  clear haw hb
  have hcl : Calls Tryz.prog 9 #[.slice (some ⟨x0.heap.size, 0, none⟩) 3 3] (x0.alloc (.cells #[.string ⟨s.toArray⟩, .string ⟨#[61]⟩, .string ⟨t.toArray⟩] 9)) fun e w' => e = .returned (.string ⟨#[48, 10]⟩) ∧ Below x0.heap.size x0 w' := by
    exact line_lit [s, [61], t] _ rfl (by simp) (by simp) [48] TL0.out (len3 HLS.out.1 (by decide) HLS.out.2) (by decide) x0 (HG.out.below HX0.out)
  go_wp2_with fail
  refine hcl.mono ?_
  rintro e x1 ⟨rfl, hb⟩
  have HX1 := Lib.hid (HX0.out.trans (hb.mono HX0.out.size))
  clear hcl hb
  have hcl : Calls Tryz.prog 9 #[.slice (some ⟨x1.heap.size, 0, none⟩) 3 3] (x1.alloc (.cells #[.string ⟨s.toArray⟩, .string ⟨#[60]⟩, .string ⟨t.toArray⟩] 9)) fun e w' => e = .returned (.string ⟨#[49, 10]⟩) ∧ Below x1.heap.size x1 w' := by
    exact line_lit [s, [60], t] _ rfl (by simp) (by simp) [49] TL1.out (len3 HLS.out.1 (by decide) HLS.out.2) (by decide) x1 (HG.out.below HX1.out)
  go_wp2_with fail
  refine hcl.mono ?_
  rintro e x2 ⟨rfl, hb⟩
  have HX2 := Lib.hid (HX1.out.trans (hb.mono HX1.out.size))
  clear hcl hb
  have hcl : Calls Tryz.prog 9 #[.slice (some ⟨x2.heap.size, 0, none⟩) 3 3] (x2.alloc (.cells #[.string ⟨s.toArray⟩, .string ⟨#[124]⟩, .string ⟨t.toArray⟩] 9)) fun e w' => e = .returned (.string ⟨R1.toArray⟩) ∧ Below x2.heap.size x2 w' := by
    rw [← HR1.out]
    exact line_lit [s, [124], t] _ rfl (by simp) (by simp) s TL2.out (len3 HLS.out.1 (by decide) HLS.out.2) (by have := HLS.out; omega) x2 (HG.out.below HX2.out)
  go_wp2_with fail
  refine hcl.mono ?_
  rintro e x3 ⟨rfl, hb⟩
  have HX3 := Lib.hid (HX2.out.trans (hb.mono HX2.out.size))
  clear hcl hb
  have hcl : Calls Tryz.prog 9 #[.slice (some ⟨x3.heap.size, 0, none⟩) 3 3] (x3.alloc (.cells #[.string ⟨#[]⟩, .string ⟨#[124]⟩, .string ⟨t.toArray⟩] 9)) fun e w' => e = .returned (.string ⟨R2.toArray⟩) ∧ Below x3.heap.size x3 w' := by
    rw [← HR2.out]
    exact line_lit [[], [124], t] _ rfl (by simp) (by simp) t TL3.out (len3 (by decide) (by decide) HLS.out.2) (by have := HLS.out; omega) x3 (HG.out.below HX3.out)
  go_wp2_with fail
  refine hcl.mono ?_
  rintro e x4 ⟨rfl, hb⟩
  have HX4 := Lib.hid (HX3.out.trans (hb.mono HX3.out.size))
  clear hcl hb
  have hcl : Calls Tryz.prog 9 #[.slice (some ⟨x4.heap.size, 0, none⟩) 3 3] (x4.alloc (.cells #[.string ⟨s.toArray⟩, .string ⟨#[38]⟩, .string ⟨t.toArray⟩] 9)) fun e w' => e = .returned (.string ⟨R1.toArray⟩) ∧ Below x4.heap.size x4 w' := by
    rw [← HR1.out]
    exact line_lit [s, [38], t] _ rfl (by simp) (by simp) s TL4.out (len3 HLS.out.1 (by decide) HLS.out.2) (by have := HLS.out; omega) x4 (HG.out.below HX4.out)
  go_wp2_with fail
  refine hcl.mono ?_
  rintro e x5 ⟨rfl, hb⟩
  have HX5 := Lib.hid (HX4.out.trans (hb.mono HX4.out.size))
  clear hcl hb
  have hcl : Calls Tryz.prog 9 #[.slice (some ⟨x5.heap.size, 0, none⟩) 3 3] (x5.alloc (.cells #[.string ⟨s.toArray⟩, .string ⟨#[38]⟩, .string ⟨#[48]⟩] 9)) fun e w' => e = .returned (.string ⟨#[48, 10]⟩) ∧ Below x5.heap.size x5 w' := by
    exact line_lit [s, [38], [48]] _ rfl (by simp) (by simp) [48] TL5.out (len3 HLS.out.1 (by decide) (by decide)) (by decide) x5 (HG.out.below HX5.out)
  go_wp2_with fail
  refine hcl.mono ?_
  rintro e x6 ⟨rfl, hb⟩
  have HX6 := Lib.hid (HX5.out.trans (hb.mono HX5.out.size))
  clear hcl hb
  have hcl : Calls Tryz.prog 9 #[.slice (some ⟨x6.heap.size, 0, none⟩) 3 3] (x6.alloc (.cells #[.string ⟨s.toArray⟩, .string ⟨#[58]⟩, .string ⟨#[46, 42]⟩] 9)) fun e w' => e = .returned (.string ⟨R3.toArray⟩) ∧ Below x6.heap.size x6 w' := by
    rw [← HR3.out]
    exact line_lit [s, [58], [46, 42]] _ rfl (by simp) (by simp) Z TL6.out (len3 HLS.out.1 (by decide) (by decide)) (by have := HZ.out; omega) x6 (HG.out.below HX6.out)
  go_wp2_with fail
  refine hcl.mono ?_
  rintro e x7 ⟨rfl, hb⟩
  have HX7 := Lib.hid (HX6.out.trans (hb.mono HX6.out.size))
  clear hcl hb
  have hd := HD.out x7 (HG.out.below HX7.out).glo
  go_wp2_with fail
  refine hd.mono ?_
  rintro e x8 ⟨rfl, hb⟩
  have HX8 := Lib.hid (HX7.out.trans (hb.mono HX7.out.size))
  clear hd hb
  go_wp2_with fail
  go_ret
  exact ⟨rfl, HX8.out⟩

end Go.Proofs.YtfgmmaahbngonaaGreatDoor

/-
  The walk of LogicTexts, one of three cases. Conditions: what the library's variables hold; lengths.
-/
namespace Go.Proofs.YtfgmmaahbngonaaGreatDoor
open Go.RowKit Go.Shelf Go.Maps

set_option maxRecDepth 100000 in
set_option maxHeartbeats 8000000 in
theorem texts_gt (c d : UInt8) (r q : Bts) (ls : (c :: r).length ≤ 100000000) (lt : (d :: q).length ≤ 100000000) (bs : Lg.Begins (c :: r)) (bt : Lg.Begins (d :: q)) (c1 : ¬ (c.toNat : Int) < 97) (c2 : ¬ (122 : Int) < c.toNat) (c3 : ¬ (d.toNat : Int) < 97) (c4 : ¬ (122 : Int) < d.toNat) (hc : c :: r ≠ d :: q) (hl : Op.bytesLess (c :: r) (d :: q) = false) (w : World) (hg : GloL w) :
    Calls Tryz.prog 5 #[.string ⟨(c :: r).toArray⟩, .string ⟨(d :: q).toArray⟩] w fun e w' => e = .returned (.bool true) ∧ Below w.heap.size w w' := by
  have haw := awake_any w hg
  have HG := Lib.hid hg
  clear hg
  have e1 : decide ((c.toNat : Int) < 97) = false := decide_eq_false c1
  have f1 : ¬ (c.toNat : Int) < 97 := c1
  have e2 : decide ((122 : Int) < c.toNat) = false := decide_eq_false c2
  have f2 : ¬ (122 : Int) < c.toNat := c2
  have e3 : decide ((d.toNat : Int) < 97) = false := decide_eq_false c3
  have f3 : ¬ (d.toNat : Int) < 97 := c3
  have e4 : decide ((122 : Int) < d.toNat) = false := decide_eq_false c4
  have f4 : ¬ (122 : Int) < d.toNat := c4
  clear c1 c2 c3 c4
  have TL0 := Lib.hid (tx_eq bs bt ls lt [48] (by rw [if_neg hc]))
  have TL1 := Lib.hid (tx_lt bs bt ls lt [48] (by rw [hl]; rfl))
  have TL2 := Lib.hid (tx_or bs bt ls lt)
  have TL3 := Lib.hid (tx_or0 bt lt)
  have TL4 := Lib.hid (tx_and bs bt ls lt)
  have TL5 := Lib.hid (tx_and0 bs ls)
  have TL6 := Lib.hid (tx_col bs ls)
  have HD := Lib.hid (fun w => digits_any ((c :: r).length : Int) (by omega) (by omega) w)
  have HZ : Hid ((Lib.itoa ((c :: r).length : Int)).length ≤ 100) := Lib.hid (itoa_le (by omega) (by omega))
  clear bs bt
  have HLS := Lib.hid (And.intro ls lt)
  clear ls lt
  generalize hs : c :: r = s at *
  generalize ht : d :: q = t at *
  have gs : ∀ h, (⟨s.toArray⟩ : ByteArray)[0]'h = c := by subst hs; intro h; rfl
  have gt : ∀ h, (⟨t.toArray⟩ : ByteArray)[0]'h = d := by subst ht; intro h; rfl
  have ns : (s == []) = false := by simp [← hs]
  have nt : (t == []) = false := by simp [← ht]
  have ms : ¬ s = [] := by simp [← hs]
  have mt : ¬ t = [] := by simp [← ht]
  have ps : 0 < s.length := by simp [← hs]
  have pt : 0 < t.length := by simp [← ht]
  clear hs ht
  have x1 : (s == t) = false := by simpa using hc
  have x2 : ¬ s = t := hc
  clear hc
  have ks : ¬ 9223372036854775807 < s.length + 1 := by have := HLS.out; omega
  have kt : ¬ 9223372036854775807 < t.length + 1 := by have := HLS.out; omega
  generalize Lib.itoa (s.length : Int) = Z at *
  have kz : ¬ 9223372036854775807 < Z.length + 1 := by have := HZ.out; omega
  have l1 := line_eq s
  have l2 := line_eq t
  have l3 := line_eq Z
  generalize hR1 : s ++ [10] = R1 at *
  generalize hR2 : t ++ [10] = R2 at *
  generalize hR3 : Z ++ [10] = R3 at *
  have HR1 := Lib.hid hR1
  have HR2 := Lib.hid hR2
  have HR3 := Lib.hid hR3
  clear hR1 hR2 hR3
  go_enter Tryz.func5, Tryz.ntmps5
  go_wp2_with fail
  refine haw.mono ?_
  rintro e x0 ⟨rfl, hb⟩
  have HX0 := Lib.hid hb
  clear haw hb
  have hcl : Calls Tryz.prog 9 #[.slice (some ⟨x0.heap.size, 0, none⟩) 3 3] (x0.alloc (.cells #[.string ⟨s.toArray⟩, .string ⟨#[61]⟩, .string ⟨t.toArray⟩] 9)) fun e w' => e = .returned (.string ⟨#[48, 10]⟩) ∧ Below x0.heap.size x0 w' := by
    exact line_lit [s, [61], t] _ rfl (by simp) (by simp) [48] TL0.out (len3 HLS.out.1 (by decide) HLS.out.2) (by decide) x0 (HG.out.below HX0.out)
  go_wp2_with fail
  refine hcl.mono ?_
  rintro e x1 ⟨rfl, hb⟩
  have HX1 := Lib.hid (HX0.out.trans (hb.mono HX0.out.size))
  clear hcl hb
  have hcl : Calls Tryz.prog 9 #[.slice (some ⟨x1.heap.size, 0, none⟩) 3 3] (x1.alloc (.cells #[.string ⟨s.toArray⟩, .string ⟨#[60]⟩, .string ⟨t.toArray⟩] 9)) fun e w' => e = .returned (.string ⟨#[48, 10]⟩) ∧ Below x1.heap.size x1 w' := by
    exact line_lit [s, [60], t] _ rfl (by simp) (by simp) [48] TL1.out (len3 HLS.out.1 (by decide) HLS.out.2) (by decide) x1 (HG.out.below HX1.out)
  go_wp2_with fail
  refine hcl.mono ?_
  rintro e x2 ⟨rfl, hb⟩
  have HX2 := Lib.hid (HX1.out.trans (hb.mono HX1.out.size))
  clear hcl hb
  have hcl : Calls Tryz.prog 9 #[.slice (some ⟨x2.heap.size, 0, none⟩) 3 3] (x2.alloc (.cells #[.string ⟨s.toArray⟩, .string ⟨#[124]⟩, .string ⟨t.toArray⟩] 9)) fun e w' => e = .returned (.string ⟨R1.toArray⟩) ∧ Below x2.heap.size x2 w' := by
    rw [← HR1.out]
    exact line_lit [s, [124], t] _ rfl (by simp) (by simp) s TL2.out (len3 HLS.out.1 (by decide) HLS.out.2) (by have := HLS.out; omega) x2 (HG.out.below HX2.out)
  go_wp2_with fail
  refine hcl.mono ?_
  rintro e x3 ⟨rfl, hb⟩
  have HX3 := Lib.hid (HX2.out.trans (hb.mono HX2.out.size))
  clear hcl hb
  have hcl : Calls Tryz.prog 9 #[.slice (some ⟨x3.heap.size, 0, none⟩) 3 3] (x3.alloc (.cells #[.string ⟨#[]⟩, .string ⟨#[124]⟩, .string ⟨t.toArray⟩] 9)) fun e w' => e = .returned (.string ⟨R2.toArray⟩) ∧ Below x3.heap.size x3 w' := by
    rw [← HR2.out]
    exact line_lit [[], [124], t] _ rfl (by simp) (by simp) t TL3.out (len3 (by decide) (by decide) HLS.out.2) (by have := HLS.out; omega) x3 (HG.out.below HX3.out)
  go_wp2_with fail
  refine hcl.mono ?_
  rintro e x4 ⟨rfl, hb⟩
  have HX4 := Lib.hid (HX3.out.trans (hb.mono HX3.out.size))
  clear hcl hb
  have hcl : Calls Tryz.prog 9 #[.slice (some ⟨x4.heap.size, 0, none⟩) 3 3] (x4.alloc (.cells #[.string ⟨s.toArray⟩, .string ⟨#[38]⟩, .string ⟨t.toArray⟩] 9)) fun e w' => e = .returned (.string ⟨R1.toArray⟩) ∧ Below x4.heap.size x4 w' := by
    rw [← HR1.out]
    exact line_lit [s, [38], t] _ rfl (by simp) (by simp) s TL4.out (len3 HLS.out.1 (by decide) HLS.out.2) (by have := HLS.out; omega) x4 (HG.out.below HX4.out)
  go_wp2_with fail
  refine hcl.mono ?_
  rintro e x5 ⟨rfl, hb⟩
  have HX5 := Lib.hid (HX4.out.trans (hb.mono HX4.out.size))
  clear hcl hb
  have hcl : Calls Tryz.prog 9 #[.slice (some ⟨x5.heap.size, 0, none⟩) 3 3] (x5.alloc (.cells #[.string ⟨s.toArray⟩, .string ⟨#[38]⟩, .string ⟨#[48]⟩] 9)) fun e w' => e = .returned (.string ⟨#[48, 10]⟩) ∧ Below x5.heap.size x5 w' := by
    exact line_lit [s, [38], [48]] _ rfl (by simp) (by simp) [48] TL5.out (len3 HLS.out.1 (by decide) (by decide)) (by decide) x5 (HG.out.below HX5.out)
  go_wp2_with fail
  refine hcl.mono ?_
  rintro e x6 ⟨rfl, hb⟩
  have HX6 := Lib.hid (HX5.out.trans (hb.mono HX5.out.size))
  clear hcl hb
  have hcl : Calls Tryz.prog 9 #[.slice (some ⟨x6.heap.size, 0, none⟩) 3 3] (x6.alloc (.cells #[.string ⟨s.toArray⟩, .string ⟨#[58]⟩, .string ⟨#[46, 42]⟩] 9)) fun e w' => e = .returned (.string ⟨R3.toArray⟩) ∧ Below x6.heap.size x6 w' := by
    rw [← HR3.out]
    exact line_lit [s, [58], [46, 42]] _ rfl (by simp) (by simp) Z TL6.out (len3 HLS.out.1 (by decide) (by decide)) (by have := HZ.out; omega) x6 (HG.out.below HX6.out)
  go_wp2_with fail
  refine hcl.mono ?_
  rintro e x7 ⟨rfl, hb⟩
  have HX7 := Lib.hid (HX6.out.trans (hb.mono HX6.out.size))
  clear hcl hb
  have hd := HD.out x7 (HG.out.below HX7.out).glo
  go_wp2_with fail
  refine hd.mono ?_
  rintro e x8 ⟨rfl, hb⟩
  have HX8 := Lib.hid (HX7.out.trans (hb.mono HX7.out.size))
  clear hd hb
  go_wp2_with fail
  go_ret
  exact ⟨rfl, HX8.out⟩

end Go.Proofs.YtfgmmaahbngonaaGreatDoor

/-
  LogicTexts, walked. Conditions: what the library's variables hold; lengths.
-/
namespace Go.Proofs.YtfgmmaahbngonaaGreatDoor
open Go.RowKit Go.Shelf Go.Maps

theorem texts_any (s t : Bts) (ls : s.length ≤ 100000000) (lt : t.length ≤ 100000000) (w : World) (hg : GloL w) :
    Calls Tryz.prog 5 #[.string ⟨s.toArray⟩, .string ⟨t.toArray⟩] w fun e w' => e = .returned (.bool true) ∧ Below w.heap.size w w' := by
  cases s with
  | nil => exact texts_none t w hg
  | cons c r =>
    cases t with
    | nil => exact texts_none2 (c :: r) (by simp) w hg
    | cons d q =>
      by_cases hc : ((c.toNat : Int) < 97 ∨ (122 : Int) < c.toNat) ∨ (d.toNat : Int) < 97 ∨ (122 : Int) < d.toNat
      · exact texts_out c d r q ls lt hc w hg
      · simp only [not_or] at hc
        obtain ⟨⟨c1, c2⟩, c3, c4⟩ := hc
        have bs : Lg.Begins (c :: r) := ⟨c, r, rfl, by omega, by omega⟩
        have bt : Lg.Begins (d :: q) := ⟨d, q, rfl, by omega, by omega⟩
        by_cases he : c :: r = d :: q
        · exact texts_eq c d r q ls lt bs bt c1 c2 c3 c4 he w hg
        · cases hl : Op.bytesLess (c :: r) (d :: q) with
          | true => exact texts_lt c d r q ls lt bs bt c1 c2 c3 c4 he hl w hg
          | false => exact texts_gt c d r q ls lt bs bt c1 c2 c3 c4 he hl w hg

end Go.Proofs.YtfgmmaahbngonaaGreatDoor
