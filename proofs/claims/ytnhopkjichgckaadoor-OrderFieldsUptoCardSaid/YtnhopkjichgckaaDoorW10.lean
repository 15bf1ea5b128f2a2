/-
  The walks of number and numbers. Conditions: the slices of bytes lie in memory as they are told, and are no longer than memory allows.
-/
import Derived.Test.YtnhopkjichgckaaDoorW9
import Derived.Shelf.Bytes.SlEqualAll
namespace Go.Proofs.YtnhopkjichgckaaDoor
open Go.RowKit Go.Shelf

theorem bytesIn_of_bs {w : World} {p : Option Addr} {xs : Ord.Bytes} (h : Bs w p xs) : Lib.BytesIn w p xs.length (nums xs) := by
  intro hn
  obtain ⟨b, o, rfl, hc⟩ := h hn
  exact ⟨b, o, rfl, fun i hi => by rw [hc i hi, nums_getD xs i hi]⟩

theorem strOf_nums (xs : Ord.Bytes) : strOfNums (nums xs) = ⟨xs.toArray⟩ := by
  have h : (nums xs).map (fun n => UInt8.ofNat n.toNat) = xs := by
    unfold nums
    rw [List.map_map]
    conv => rhs; rw [← List.map_id xs]
    apply List.map_congr_left
    intro c _
    simp
  unfold strOfNums
  rw [h]

set_option maxRecDepth 100000 in
theorem run_str {w : World} {p : Option Addr} {xs : Ord.Bytes} (h : Bs w p xs) (c : Nat) :
    (convert 23 9 (.slice p xs.length c)).run Tryd.prog w = .ok (.string ⟨xs.toArray⟩) w := by
  rw [← strOf_nums]
  exact (bytesIn_of_bs h).convert (nums_length xs) c 23 5 9 Tryd.underlying23 Tryd.underlying5 Tryd.underlying9

/-- What number hands back. -/
def numOfVal (b : Ord.Bytes) : Value := .tuple #[.int .i64 (Ord.numOf b).1, .string ⟨(Ord.numOf b).2.toArray⟩]

set_option maxRecDepth 100000 in
theorem num_any (b : Ord.Bytes) (p : Option Addr) (cap : Nat) (w : World) (hb : Bs w p b) (hl : b.length ≤ 140737488351232) :
    Calls Tryd.prog 32 #[.slice p b.length cap] w fun e w' => e = .returned (numOfVal b) ∧ Below w.heap.size w w' := by
  have hcv := run_str hb cap
  have h1 : (b.dropWhile Ord.blank).length ≤ b.length := (List.dropWhile_sublist _).length_le
  go_enter Tryd.func32, Tryd.ntmps32
  go_wp2_with fail
  refine (trimLeft_any b [32, 9] Ord.blank blank_contains (by decide) (by decide) _).mono ?_
  rintro e w1 ⟨rfl, hb1⟩
  clear hcv
  go_wp2_with fail
  refine (cutPrefix_any (b.dropWhile Ord.blank) 45 _).mono ?_
  rintro e w2 ⟨⟨t, is, hcp, rfl⟩, rfl⟩
  have ht : t.length ≤ 140737488351232 := by
    rcases hcp with ⟨_, h⟩ | ⟨_, h, _⟩
    · have := congrArg List.length h; simp at this; omega
    · rw [h]; omega
  have HN : Hid (Ord.numOf b = if is && !((t.takeWhile Ord.digit).dropWhile (· == 48)).isEmpty then (-1, (t.takeWhile Ord.digit).dropWhile (· == 48)) else (1, (t.takeWhile Ord.digit).dropWhile (· == 48))) := by
    show Ord.numOf b = _
    unfold Ord.numOf
    rcases hcp with ⟨rfl, h⟩ | ⟨rfl, rfl, h⟩
    · simp only [h, List.head?_cons, List.tail_cons, beq_self_eq_true, if_true]
    · have h' : ((b.dropWhile Ord.blank).head? == some 45) = false := by simpa using h
      simp only [h', Bool.false_eq_true, if_false]
  clear hcp
  go_wp2_with fail
  refine (digits_any t ht _).mono ?_
  rintro e w3 ⟨rfl, hb3⟩
  go_wp2_with fail
  refine (trimLeft_any (t.takeWhile Ord.digit) [48] (· == 48) nought_contains (by decide) (by decide) _).mono ?_
  rintro e w4 ⟨rfl, hb4⟩
  have hbw : Below w.heap.size w w4 := (hb1.trans (hb3.mono hb1.size)).trans (hb4.mono (Nat.le_trans hb1.size hb3.size))
  clear hb1 hb3 hb4
  generalize (t.takeWhile Ord.digit).dropWhile (· == 48) = d at *
  go_wp2_with fail
  all_goals (go_ret2; refine ⟨?_, hbw⟩; unfold numOfVal; rw [HN.out])
  · have e1 : is = true := by assumption
    have e2 : (!d.isEmpty) = true := by assumption
    rw [e1, e2]; rfl
  · have e1 : is = true := by assumption
    have e2 : (!d.isEmpty) = false := by assumption
    rw [e1, e2]; rfl
  · have e1 : is = false := by assumption
    rw [e1]; rfl

theorem ite_one (c : Bool) (d : Ord.Bytes) : (if c = true then ((-1 : Int), d) else (1, d)).1 = 1 ∨ (if c = true then ((-1 : Int), d) else (1, d)).1 = -1 := by
  cases c
  · exact .inl rfl
  · exact .inr rfl
theorem ite_two (c : Bool) (d : Ord.Bytes) : (if c = true then ((-1 : Int), d) else (1, d)).2 = d := by cases c <;> rfl
theorem numOf_one (b : Ord.Bytes) : (Ord.numOf b).1 = 1 ∨ (Ord.numOf b).1 = -1 := ite_one _ _
theorem numOf_len (b : Ord.Bytes) : (Ord.numOf b).2.length ≤ b.length := by
  have h0 : (b.dropWhile Ord.blank).length ≤ b.length := (List.dropWhile_sublist _).length_le
  have h : ∀ t : Ord.Bytes, t.length ≤ b.length → ((t.takeWhile Ord.digit).dropWhile (· == 48)).length ≤ b.length := fun t ht =>
    Nat.le_trans (List.dropWhile_sublist _).length_le (Nat.le_trans (List.takeWhile_sublist _).length_le ht)
  have e : (Ord.numOf b).2 = (((if (b.dropWhile Ord.blank).head? == some 45 then (b.dropWhile Ord.blank).tail else b.dropWhile Ord.blank).takeWhile Ord.digit).dropWhile (· == 48)) := ite_two _ _
  rw [e]
  apply h
  split
  · simp; omega
  · exact h0
theorem cmpInt_bd (a b : Int) : -1 ≤ Ord.cmpInt a b ∧ Ord.cmpInt a b ≤ 1 := by
  show -1 ≤ Lib.compareInt a b ∧ Lib.compareInt a b ≤ 1
  unfold Lib.compareInt; split
  · omega
  · split <;> omega
theorem cmpBytes_bd (a b : Ord.Bytes) : -1 ≤ Ord.cmpBytes a b ∧ Ord.cmpBytes a b ≤ 1 := by
  induction a generalizing b with
  | nil => cases b <;> simp [Lib.compareBytes]
  | cons x r ih =>
    cases b with
    | nil => simp [Lib.compareBytes]
    | cons y s =>
      simp only [Lib.compareBytes]
      split
      · omega
      · split
        · omega
        · exact ih s

set_option maxHeartbeats 800000 in
set_option maxRecDepth 100000 in
theorem numbers_any (a b : Ord.Bytes) (p q : Option Addr) (c d : Nat) (w : World) (ha : Bs w p a) (hb : Bs w q b) (hla : a.length ≤ 140737488351232) (hlb : b.length ≤ 140737488351232) :
    Calls Tryd.prog 23 #[.slice p a.length c, .slice q b.length d] w fun e w' => e = .returned (.int .i64 (Ord.numbers a b)) ∧ Below w.heap.size w w' := by
  have hn1 := fun w hb => num_any a p c w hb hla
  have hn2 := fun w hb => num_any b q d w hb hlb
  have hx1 := numOf_one a
  have hy1 := numOf_len a
  have hy2 := numOf_len b
  unfold numOfVal at hn1 hn2
  obtain ⟨x, l, hx⟩ : ∃ x l, Ord.numOf a = (x, l) := ⟨_, _, rfl⟩
  obtain ⟨y, m, hy⟩ : ∃ y m, Ord.numOf b = (y, m) := ⟨_, _, rfl⟩
  rw [hx] at hn1 hx1 hy1
  rw [hy] at hn2 hy2
  simp only at hn1 hn2 hx1 hy1 hy2
  have HN : Hid (Ord.numbers a b = if x ≠ y then Ord.cmpInt x y else if l.length ≠ m.length then x * Ord.cmpInt l.length m.length else x * Ord.cmpBytes l m) := by
    show Ord.numbers a b = _
    unfold Ord.numbers
    rw [hx, hy]
  clear hx hy
  have hx2 : -1 ≤ x ∧ x ≤ 1 := by omega
  go_enter Tryd.func23, Tryd.ntmps23
  go_wp2_with fail
  refine (hn1 _ ha).mono ?_
  rintro e w1 ⟨rfl, hb1⟩
  go_wp2_with fail
  refine (hn2 _ (hb.below hb1 (Nat.le_refl _))).mono ?_
  rintro e w2 ⟨rfl, hb2⟩
  have hbw := hb1.trans (hb2.mono hb1.size)
  clear hn1 hn2 hb1 hb2
  by_cases hxy : x = y
  · have hxy' : (x == y) = true := by simpa using hxy
    have HXY := Lib.hid hxy; clear hxy
    by_cases hlm : l.length = m.length
    · have hlm' : ((l.length : Int) == (m.length : Int)) = true := by rw [beq_iff_eq]; omega
      have HLM := Lib.hid hlm; clear hlm
      have hcb : -1 ≤ Lib.compareBytes l m ∧ Lib.compareBytes l m ≤ 1 := cmpBytes_bd l m
      go_wp2_with (go_at_call 34; refine (Any.strings_Compare Tryd.lays106 ⟨l.toArray⟩ ⟨m.toArray⟩ _).mono ?_; rintro e w3 ⟨rfl, rfl⟩)
      go_ret
      refine ⟨ret_int ?_, hbw⟩
      rw [HN.out, if_neg (by simp [HXY.out]), if_neg (by simp [HLM.out])]
      exact IntWalk.wrap64_in _ (by rcases hx1 with rfl | rfl <;> omega)
    · have hlm' : ((l.length : Int) == (m.length : Int)) = false := by rw [beq_eq_false_iff_ne]; omega
      have HLM := Lib.hid hlm; clear hlm
      have hcb : -1 ≤ Lib.compareInt l.length m.length ∧ Lib.compareInt l.length m.length ≤ 1 := cmpInt_bd l.length m.length
      go_wp2_with (go_at_call 33; refine (Any.cmp_Compare_int Tryd.lays122 (l.length : Int) (m.length : Int) _).mono ?_; rintro e w3 ⟨rfl, rfl⟩)
      go_ret
      refine ⟨ret_int ?_, hbw⟩
      rw [HN.out, if_neg (by simp [HXY.out]), if_pos HLM.out]
      exact IntWalk.wrap64_in _ (by rcases hx1 with rfl | rfl <;> omega)
  · have hxy' : (x == y) = false := by simpa using hxy
    have HXY := Lib.hid hxy; clear hxy
    go_wp2_with (go_at_call 33; refine (Any.cmp_Compare_int Tryd.lays122 x y _).mono ?_; rintro e w3 ⟨rfl, rfl⟩)
    go_ret
    exact ⟨ret_int (by rw [HN.out, if_pos HXY.out]), hbw⟩

end Go.Proofs.YtnhopkjichgckaaDoor
