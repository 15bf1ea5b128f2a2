/-
  The plain law of OrderNumbers: written numbers compare as the numbers do. No condition, no program in sight.
-/
import Derived.Test.YtnhopkjichgckaaDoorLaw
namespace Go.Proofs.YtnhopkjichgckaaDoor.Ord
open Go

/-- A number's digits. -/
def decs (n : Nat) : Bytes := if n < 10 then [UInt8.ofNat (48 + n)] else decs (n / 10) ++ [UInt8.ofNat (48 + n % 10)]
termination_by n
decreasing_by omega

def strip (n : Nat) : Bytes := if n = 0 then [] else decs n

theorem decs_small (n : Nat) (h : n < 10) : decs n = [UInt8.ofNat (48 + n)] := by rw [decs, if_pos h]
theorem decs_big (n : Nat) (h : ¬ n < 10) : decs n = decs (n / 10) ++ [UInt8.ofNat (48 + n % 10)] := by rw [decs, if_neg h]

theorem ofNat_digit (k : Nat) (h : k < 10) : (UInt8.ofNat (48 + k)).toNat = 48 + k := by simp [UInt8.toNat_ofNat']; omega
theorem digit_ofNat (k : Nat) (h : k < 10) : digit (UInt8.ofNat (48 + k)) = true := by
  simp only [digit, UInt8.le_iff_toNat_le, ofNat_digit k h]
  simp; omega

theorem decs_ne (n : Nat) : decs n ≠ [] := by
  by_cases h : n < 10
  · rw [decs_small n h]; simp
  · rw [decs_big n h]; simp

theorem decs_digit (n : Nat) : (decs n).all digit = true := by
  induction n using Nat.strongRecOn with
  | ind n ih =>
    by_cases h : n < 10
    · rw [decs_small n h]; simp only [List.all_cons, List.all_nil, digit_ofNat n h, Bool.and_true]
    · rw [decs_big n h, List.all_append, ih (n / 10) (by omega)]
      simp only [List.all_cons, List.all_nil, digit_ofNat (n % 10) (by omega), Bool.and_true]

theorem decs_value (n : Nat) : value (decs n) = n := by
  induction n using Nat.strongRecOn with
  | ind n ih =>
    by_cases h : n < 10
    · rw [decs_small n h]; simp only [value, List.foldl_cons, List.foldl_nil, ofNat_digit n h]; omega
    · have := ih (n / 10) (by omega)
      unfold value at this ⊢
      rw [decs_big n h, List.foldl_append, this]
      simp only [List.foldl_cons, List.foldl_nil, ofNat_digit (n % 10) (by omega)]
      omega

theorem decs_head (n : Nat) (h0 : n ≠ 0) : ∃ c r, decs n = c :: r ∧ 49 ≤ c.toNat ∧ c.toNat ≤ 57 := by
  induction n using Nat.strongRecOn with
  | ind n ih =>
    by_cases h : n < 10
    · exact ⟨_, [], decs_small n h, by rw [ofNat_digit n h]; omega, by rw [ofNat_digit n h]; omega⟩
    · obtain ⟨c, r, e, h1, h2⟩ := ih (n / 10) (by omega) (by omega)
      exact ⟨c, r ++ [UInt8.ofNat (48 + n % 10)], by rw [decs_big n h, e]; rfl, h1, h2⟩

theorem strip_value (n : Nat) : value (strip n) = n := by
  unfold strip; split
  · subst_vars; rfl
  · exact decs_value n
theorem strip_digit (n : Nat) : (strip n).all digit = true := by
  unfold strip; split
  · rfl
  · exact decs_digit n

theorem valueFrom_eq (s : Bytes) : ∀ a, valueFrom a s = a * 10 ^ s.length + value s := by
  induction s with
  | nil => intro a; simp [valueFrom, value]
  | cons c r ih =>
    intro a
    have e1 : valueFrom a (c :: r) = valueFrom (a * 10 + (c.toNat - 48)) r := rfl
    have e2 : value (c :: r) = valueFrom (0 * 10 + (c.toNat - 48)) r := rfl
    rw [e1, e2, ih, ih, List.length_cons, Nat.pow_succ, Nat.add_mul, Nat.zero_mul, Nat.zero_add]
    have : a * 10 * 10 ^ r.length = a * (10 ^ r.length * 10) := by rw [Nat.mul_comm (10 ^ r.length) 10, Nat.mul_assoc]
    omega
theorem value_cons (c : UInt8) (r : Bytes) : value (c :: r) = (c.toNat - 48) * 10 ^ r.length + value r := by
  have e2 : value (c :: r) = valueFrom (0 * 10 + (c.toNat - 48)) r := rfl
  rw [e2, valueFrom_eq, Nat.zero_mul, Nat.zero_add]

theorem value_lt (s : Bytes) (h : s.all digit = true) : value s < 10 ^ s.length := by
  induction s with
  | nil => simp [value]
  | cons c r ih =>
    simp only [List.all_cons, Bool.and_eq_true] at h
    have h1 := digit_nat h.1
    have h2 := ih h.2
    rw [value_cons, List.length_cons, Nat.pow_succ]
    have h3 : (c.toNat - 48) * 10 ^ r.length ≤ 9 * 10 ^ r.length := Nat.mul_le_mul_right _ (by omega)
    omega

theorem strip_ge (n : Nat) (h0 : n ≠ 0) : 10 ^ ((strip n).length - 1) ≤ n := by
  obtain ⟨c, r, e, h1, h2⟩ := decs_head n h0
  have e' : strip n = c :: r := by unfold strip; rw [if_neg h0]; exact e
  have hv := strip_value n
  rw [e', value_cons] at hv
  rw [e', List.length_cons, Nat.add_sub_cancel]
  have : 1 * 10 ^ r.length ≤ (c.toNat - 48) * 10 ^ r.length := Nat.mul_le_mul_right _ (by omega)
  omega
theorem strip_lt (n : Nat) : n < 10 ^ (strip n).length := by
  have := value_lt (strip n) (strip_digit n)
  rwa [strip_value] at this

theorem cmp_digits : ∀ x y : Bytes, x.length = y.length → x.all digit = true → y.all digit = true → cmpBytes x y = cmpInt (value x) (value y)
  | [], [], _, _, _ => rfl
  | [], _ :: _, h, _, _ => by simp at h
  | _ :: _, [], h, _, _ => by simp at h
  | c :: r, d :: s, hl, hx, hy => by
    simp only [List.all_cons, Bool.and_eq_true] at hx hy
    have hc := digit_nat hx.1
    have hd := digit_nat hy.1
    have hl' : r.length = s.length := by simpa using hl
    have ih := cmp_digits r s hl' hx.2 hy.2
    have hr := value_lt r hx.2
    have hs := value_lt s hy.2
    rw [cmpBytes_cons, ih, value_cons, value_cons, hl']
    rw [hl'] at hr
    generalize 10 ^ s.length = P at *
    generalize value r = u at *
    generalize value s = v at *
    have key : ∀ a b : Nat, a < b → a * P + P ≤ b * P := fun a b h => by
      have := Nat.mul_le_mul_right P (show a + 1 ≤ b by omega)
      rw [Nat.add_mul, Nat.one_mul] at this; exact this
    simp only [cmpInt, Lib.compareInt]
    by_cases h1 : c.toNat < d.toNat
    · have := key (c.toNat - 48) (d.toNat - 48) (by omega)
      rw [if_pos h1, if_pos (by omega)]
    · by_cases h2 : d.toNat < c.toNat
      · have := key (d.toNat - 48) (c.toNat - 48) (by omega)
        rw [if_neg h1, if_pos h2, if_neg (by omega), if_pos (by omega)]
      · have : c.toNat = d.toNat := by omega
        rw [if_neg h1, if_neg h2, this]
        repeat' split
        all_goals omega

theorem cmp_strip (m n : Nat) : (if (strip m).length ≠ (strip n).length then cmpInt (strip m).length (strip n).length else cmpBytes (strip m) (strip n)) = cmpInt m n := by
  by_cases h : (strip m).length = (strip n).length
  · rw [if_neg (by simp [h]), cmp_digits _ _ h (strip_digit m) (strip_digit n), strip_value, strip_value]
  · rw [if_pos h]
    have less : ∀ a b : Nat, (strip a).length < (strip b).length → a < b := fun a b hab => by
      have h1 := strip_lt a
      have hb : b ≠ 0 := by rintro rfl; simp [strip] at hab
      have h2 := strip_ge b hb
      have h3 : 10 ^ (strip a).length ≤ 10 ^ ((strip b).length - 1) := Nat.pow_le_pow_right (by omega) (by omega)
      omega
    simp only [cmpInt, Lib.compareInt]
    rcases Nat.lt_or_gt_of_ne h with h1 | h1
    · have := less m n h1
      rw [if_pos (by omega), if_pos (by omega)]
    · have := less n m h1
      rw [if_neg (by omega), if_pos (by omega), if_neg (by omega), if_pos (by omega)]

/-- A number in digits, with noughts and blanks ahead. -/
def writtenL (a : Int) (z b : Nat) : Bytes := List.replicate b 32 ++ ((if a < 0 then [45] else []) ++ (List.replicate z 48 ++ decs a.natAbs))

theorem takeWhile_self {p : UInt8 → Bool} : ∀ l : Bytes, l.all p = true → l.takeWhile p = l
  | [], _ => rfl
  | c :: r, h => by
    simp only [List.all_cons, Bool.and_eq_true] at h
    rw [List.takeWhile_cons, if_pos h.1, takeWhile_self r h.2]

theorem digits_all (z m : Nat) : (List.replicate z (48 : UInt8) ++ decs m).all digit = true := by
  rw [List.all_append, decs_digit]
  simp [digit]
theorem digits_cons (z m : Nat) : ∃ c r, List.replicate z (48 : UInt8) ++ decs m = c :: r ∧ digit c = true := by
  have h := digits_all z m
  cases e : List.replicate z (48 : UInt8) ++ decs m with
  | nil => simp at e; exact absurd e.2 (decs_ne m)
  | cons c r => rw [e] at h; simp only [List.all_cons, Bool.and_eq_true] at h; exact ⟨c, r, rfl, h.1⟩
theorem digits_strip (z m : Nat) : (List.replicate z (48 : UInt8) ++ decs m).dropWhile (· == 48) = strip m := by
  rw [List.dropWhile_append_of_pos (by intro a ha; simp [List.eq_of_mem_replicate ha])]
  unfold strip
  split
  · subst_vars; rw [decs_small 0 (by omega)]; decide
  · rename_i h
    obtain ⟨c, r, e, h1, h2⟩ := decs_head m h
    rw [e, List.dropWhile_cons, if_neg]
    simp only [beq_iff_eq]
    intro h3; subst h3; simp at h1

theorem digit_not_blank {c : UInt8} (h : digit c = true) : blank c = false ∧ c ≠ 45 := by
  have := digit_nat h
  refine ⟨?_, by rintro rfl; simp at this⟩
  cases hb : blank c with
  | false => rfl
  | true =>
    simp only [blank, Bool.or_eq_true, beq_iff_eq] at hb
    rcases hb with rfl | rfl <;> simp at this

theorem numOf_written (a : Int) (z b : Nat) : numOf (writtenL a z b) = (if a < 0 then -1 else 1, strip a.natAbs) := by
  obtain ⟨c, r, e, hd⟩ := digits_cons z a.natAbs
  obtain ⟨h1, h2⟩ := digit_not_blank hd
  have hs : (writtenL a z b).dropWhile blank = (if a < 0 then [45] else []) ++ (List.replicate z 48 ++ decs a.natAbs) := by
    unfold writtenL
    rw [List.dropWhile_append_of_pos (by intro x hx; rw [List.eq_of_mem_replicate hx]; decide), e]
    split
    · rw [List.singleton_append, List.dropWhile_cons, if_neg (by decide)]
    · rw [List.nil_append, List.dropWhile_cons, if_neg (by rw [h1]; decide)]
  unfold numOf
  rw [hs]
  have hall := digits_all z a.natAbs
  have hst := digits_strip z a.natAbs
  by_cases ha : a < 0
  · rw [if_pos ha, if_pos ha]
    have hne : strip a.natAbs ≠ [] := by unfold strip; rw [if_neg (by omega)]; exact decs_ne _
    simp only [List.singleton_append, List.head?_cons, List.tail_cons, beq_self_eq_true, if_true, takeWhile_self _ hall, hst]
    cases hx : strip a.natAbs with
    | nil => exact absurd hx hne
    | cons x y => rfl
  · rw [if_neg ha, if_neg ha]
    have hh : ((c :: r).head? == some 45) = false := by simp; exact h2
    simp only [List.nil_append, e, hh, Bool.false_eq_true, if_false, Bool.false_and]
    rw [← e, takeWhile_self _ hall, hst]

theorem piece_all (b : Bytes) (fl : Int) (h : has fl 1 = false) : piece (-1) b ⟨⟨1, 0⟩, ⟨0, 0⟩, fl⟩ = b := by
  have h1 : pieceFrom (-1) b ⟨⟨1, 0⟩, ⟨0, 0⟩, fl⟩ = 0 := by
    unfold pieceFrom
    simp [field, h]
    decide
  have h2 : pieceTo (-1) b ⟨⟨1, 0⟩, ⟨0, 0⟩, fl⟩ = b.length := by unfold pieceTo; simp
  unfold piece
  rw [h1, h2]
  split
  · cases b
    · rfl
    · simp at *; omega
  · simp

theorem numbersLaw (a b : Int) (z k : Nat) : sign (keysCmp (-1) (writtenL a z k) (writtenL b 0 0) [⟨⟨1, 0⟩, ⟨0, 0⟩, 32⟩]) = sign (a - b) := by
  have hb : byKey (-1) ⟨⟨1, 0⟩, ⟨0, 0⟩, 32⟩ (writtenL a z k) (writtenL b 0 0) = numbers (writtenL a z k) (writtenL b 0 0) := by
    unfold byKey
    rw [piece_all _ 32 (by decide), piece_all _ 32 (by decide)]
    rfl
  have hk : keysCmp (-1) (writtenL a z k) (writtenL b 0 0) [⟨⟨1, 0⟩, ⟨0, 0⟩, 32⟩] = numbers (writtenL a z k) (writtenL b 0 0) := by
    unfold keysCmp keysCmp
    rw [hb]
    split
    · rfl
    · rename_i h; simp at h; exact h.symm
  rw [hk]
  unfold numbers
  rw [numOf_written, numOf_written]
  have hc := cmp_strip a.natAbs b.natAbs
  simp only
  generalize (strip a.natAbs).length = la at *
  generalize (strip b.natAbs).length = lb at *
  generalize cmpBytes (strip a.natAbs) (strip b.natAbs) = q at *
  generalize cmpInt (la : Int) (lb : Int) = t at *
  simp only [cmpInt, Lib.compareInt] at hc ⊢
  unfold sign
  by_cases ha : a < 0 <;> by_cases hb : b < 0 <;> simp only [ha, hb, if_true, if_false] <;> repeat' split
  all_goals omega

end Go.Proofs.YtnhopkjichgckaaDoor.Ord
