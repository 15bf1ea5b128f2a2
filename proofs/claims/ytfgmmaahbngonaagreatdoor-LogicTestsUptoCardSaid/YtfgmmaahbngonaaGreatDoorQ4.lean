/-
  Texts of this seat put together: LgLaw, L1.
-/
import Derived.Test.YtfgmmaahbngonaaGreatDoorQ3
import Derived.Lib.SlTrimSet

/-
  The plain laws of logic: numbers told and read, what expr and test come to of what the laws ask. No program in sight.
  Conditions: numbers of 64 bits; texts that begin with a letter.
-/
namespace Go.Proofs.YtfgmmaahbngonaaGreatDoor.Lg
open Go

/-! Numbers that were told are read. -/
theorem value_app (a b : Bts) : value (a ++ b) = b.foldl (fun n c => n * 10 + (c.toNat - 48)) (value a) := by unfold value; rw [List.foldl_append]
theorem dec_step {u : Nat} (h : u < 10) : digit (UInt8.ofNat (48 + u)) = true ∧ (UInt8.ofNat (48 + u)).toNat = 48 + u := by
  have hd : ∀ d : Fin 10, digit (UInt8.ofNat (48 + d.val)) = true ∧ (UInt8.ofNat (48 + d.val)).toNat = 48 + d.val := by decide
  exact hd ⟨u, h⟩
theorem dec_num (u : Nat) : (Lib.decDigits u).all digit = true ∧ value (Lib.decDigits u) = u ∧ Lib.decDigits u ≠ [] := by
  induction u using Nat.strongRecOn with
  | _ u ih =>
    rw [Lib.decDigits]
    by_cases h : u < 10
    · rw [dif_pos h]
      obtain ⟨h1, h2⟩ := dec_step h
      refine ⟨by rw [List.all_cons, h1]; rfl, ?_, by simp⟩
      show 0 * 10 + _ = u
      rw [h2]; omega
    · rw [dif_neg h]
      obtain ⟨h1, h2⟩ := dec_step (u := u % 10) (by omega)
      obtain ⟨i1, i2, i3⟩ := ih (u / 10) (by omega)
      refine ⟨by rw [List.all_append, i1, List.all_cons, h1]; rfl, ?_, by simp⟩
      rw [value_app, i2]
      show u / 10 * 10 + _ = u
      rw [h2]; omega
theorem dec_head (u : Nat) : minus (Lib.decDigits u) = false := by
  obtain ⟨h1, -, h3⟩ := dec_num u
  unfold minus
  cases h : Lib.decDigits u with
  | nil => exact absurd h h3
  | cons c r =>
    rw [h] at h1
    simp only [List.all_cons, Bool.and_eq_true] at h1
    simp only [List.head?_cons]
    have : c ≠ 45 := by
      rintro rfl
      exact absurd h1.1 (by decide)
    simpa using this
theorem num_itoa (n : Int) (h1 : -9223372036854775808 ≤ n) (h2 : n ≤ 9223372036854775807) : num (Lib.itoa n) = some n := by
  by_cases h0 : n < 0
  · obtain ⟨u, rfl⟩ : ∃ u : Nat, n = -(u : Int) := ⟨n.natAbs, by omega⟩
    rw [Lib.itoa_neg u (by omega)]
    obtain ⟨i1, i2, i3⟩ := dec_num u
    have hm : minus (45 :: Lib.decDigits u) = true := rfl
    have hb : body (45 :: Lib.decDigits u) = Lib.decDigits u := rfl
    have hs : sval (45 :: Lib.decDigits u) = -(u : Int) := by unfold sval; rw [if_pos hm, hb, i2]
    unfold num
    rw [hb, hs, i1, if_pos]
    simp [i3]
    omega
  · obtain ⟨u, rfl⟩ : ∃ u : Nat, n = (u : Int) := ⟨n.toNat, by omega⟩
    rw [Lib.itoa_nonneg u]
    obtain ⟨i1, i2, i3⟩ := dec_num u
    have hm := dec_head u
    have hb : body (Lib.decDigits u) = Lib.decDigits u := by unfold body; rw [hm]; rfl
    have hs : sval (Lib.decDigits u) = (u : Int) := by unfold sval; rw [hm, hb, i2]; rfl
    unfold num
    rw [hb, hs, i1, if_pos]
    simp [i3]
    omega
theorem nums_itoa (n m : Int) (h1 : -9223372036854775808 ≤ n) (h2 : n ≤ 9223372036854775807) (h3 : -9223372036854775808 ≤ m) (h4 : m ≤ 9223372036854775807) : nums (Lib.itoa n) (Lib.itoa m) = .ok (n, m) := by
  unfold nums
  rw [num_itoa n h1 h2, num_itoa m h3 h4]

/-- A text that is no sign of expr. -/
def Free (s : Bts) : Prop := rank s = 0 ∧ s ≠ [40] ∧ s ≠ [41]
theorem signs_of {s : Bts} (h : rank s ≠ 0) : s ∈ ([[124], [38], [61], [62], [62, 61], [60], [60, 61], [33, 61], [43], [45], [42], [47], [37], [58]] : List Bts) := by
  refine Classical.byContradiction fun hn => h ?_
  simp only [List.mem_cons, List.not_mem_nil, or_false, not_or] at hn
  obtain ⟨a1, a2, a3, a4, a5, a6, a7, a8, a9, a10, a11, a12, a13, a14⟩ := hn
  unfold rank
  rw [if_neg a1, if_neg a2, if_neg (by simp only [not_or]; exact ⟨a3, a4, a5, a6, a7, a8⟩), if_neg (by simp only [not_or]; exact ⟨a9, a10⟩), if_neg (by simp only [not_or]; exact ⟨a11, a12, a13⟩), if_neg a14]
theorem free_num {s : Bts} {n : Int} (h : num s = some n) : Free s := by
  refine ⟨Classical.byContradiction fun hr => ?_, ?_, ?_⟩
  · have hm := signs_of hr
    have hall : ∀ t ∈ ([[124], [38], [61], [62], [62, 61], [60], [60, 61], [33, 61], [43], [45], [42], [47], [37], [58]] : List Bts), num t = none := by decide
    rw [hall s hm] at h
    cases h
  · rintro rfl; rw [show num [40] = none from by decide] at h; cases h
  · rintro rfl; rw [show num [41] = none from by decide] at h; cases h
theorem free_itoa (n : Int) (h1 : -9223372036854775808 ≤ n) (h2 : n ≤ 9223372036854775807) : Free (Lib.itoa n) := free_num (num_itoa n h1 h2)

/-- A text that begins with a letter. -/
def Begins (s : Bts) : Prop := ∃ c r, s = c :: r ∧ 97 ≤ c.toNat ∧ c.toNat ≤ 122
theorem free_letter {s : Bts} (h : Begins s) : Free s := by
  obtain ⟨c, r, rfl, h1, h2⟩ := h
  have hne : ∀ (d : UInt8) (t : Bts), d.toNat < 97 ∨ 122 < d.toNat → c :: r ≠ d :: t := fun d t hd e => by
    injection e with e1 _
    subst e1
    omega
  refine ⟨Classical.byContradiction fun hr => ?_, hne 40 [] (by decide), hne 41 [] (by decide)⟩
  have hm := signs_of hr
  simp only [List.mem_cons, List.not_mem_nil, or_false] at hm
  rcases hm with h | h | h | h | h | h | h | h | h | h | h | h | h | h <;> exact absurd h (hne _ _ (by decide))
theorem num_letter {s : Bts} (h : Begins s) : num s = none := by
  obtain ⟨c, r, rfl, h1, h2⟩ := h
  have hm : minus (c :: r) = false := by
    unfold minus
    simp only [List.head?_cons]
    have : c ≠ 45 := by rintro rfl; exact absurd h1 (by decide)
    simpa using this
  have hb : body (c :: r) = c :: r := by unfold body; rw [hm]; rfl
  have hd : digit c = false := by
    unfold digit
    simp only [Bool.and_eq_false_imp, decide_eq_true_eq, decide_eq_false_iff_not, UInt8.le_iff_toNat_le]
    intro _ h
    have : (57 : UInt8).toNat = 57 := rfl
    omega
  unfold num
  rw [hb, List.all_cons, hd]
  simp
theorem null_letter {s : Bts} (h : Begins s) : null s = false := by
  unfold null
  rw [num_letter h]
  obtain ⟨c, r, rfl, -, -⟩ := h
  rfl
theorem begins_ne {s : Bts} (h : Begins s) : s.isEmpty = false := by
  obtain ⟨c, r, rfl, -, -⟩ := h
  rfl
theorem nums_letter {s : Bts} (t : Bts) (h : Begins s) : nums s t = .error (s, 25) := by unfold nums; rw [num_letter h]

/-! What is read, with enough steps. -/
def Opers (l : List Bts) (a : Nd) (r : List Bts) : Prop := ∃ f, ∀ g, f ≤ g → operand g l = some (some (a, r))
def Reads (k : Nat) (l : List Bts) (a : Nd) (r : List Bts) : Prop := ∃ f, ∀ g, f ≤ g → read g k l = some (some (a, r))
def Mores (k : Nat) (a : Nd) (l : List Bts) (b : Nd) (r : List Bts) : Prop := ∃ f, ∀ g, f ≤ g → more g k a l = some (some (b, r))

theorem Opers.free {s : Bts} (h : Free s) (r : List Bts) : Opers (s :: r) (.val s) r := ⟨1, fun g hg => by
  obtain ⟨g, rfl⟩ : ∃ f, g = f + 1 := ⟨g - 1, by omega⟩
  rw [operand]
  rw [if_neg h.2.2, if_pos h.2.1]⟩
theorem Opers.paren {l r : List Bts} {n : Nd} (h : Reads 1 l n ([41] :: r)) : Opers ([40] :: l) n r := by
  obtain ⟨f, h⟩ := h
  refine ⟨f + 1, fun g hg => ?_⟩
  obtain ⟨g, rfl⟩ : ∃ f, g = f + 1 := ⟨g - 1, by omega⟩
  rw [operand]
  rw [if_neg (by decide), if_neg (by decide), h g (by omega)]
  simp only [if_true]
theorem Mores.nil (k : Nat) (a : Nd) : Mores k a [] a [] := ⟨1, fun g hg => by
  obtain ⟨g, rfl⟩ : ∃ f, g = f + 1 := ⟨g - 1, by omega⟩
  rw [more]⟩
theorem Mores.no {k : Nat} {o : Bts} (h : rank o ≠ k) (a : Nd) (r : List Bts) : Mores k a (o :: r) a (o :: r) := ⟨1, fun g hg => by
  obtain ⟨g, rfl⟩ : ∃ f, g = f + 1 := ⟨g - 1, by omega⟩
  rw [more]
  rw [if_neg h]⟩
theorem Mores.yes {k : Nat} {o : Bts} (h : rank o = k) {a b c : Nd} {r l l2 : List Bts} (h1 : Reads (k + 1) r b l) (h2 : Mores k (.bin o a b) l c l2) : Mores k a (o :: r) c l2 := by
  obtain ⟨f1, h1⟩ := h1
  obtain ⟨f2, h2⟩ := h2
  refine ⟨f1 + f2 + 1, fun g hg => ?_⟩
  obtain ⟨g, rfl⟩ : ∃ f, g = f + 1 := ⟨g - 1, by omega⟩
  rw [more]
  rw [if_pos h, h1 g (by omega)]
  simp only
  exact h2 g (by omega)
theorem Reads.top {l r : List Bts} {a : Nd} (h : Opers l a r) : Reads 7 l a r := by
  obtain ⟨f, h⟩ := h
  refine ⟨f + 1, fun g hg => ?_⟩
  obtain ⟨g, rfl⟩ : ∃ f, g = f + 1 := ⟨g - 1, by omega⟩
  rw [read, if_pos (by decide)]
  exact h g (by omega)
theorem Reads.next {k : Nat} (hk : k ≤ 6) {l l1 r : List Bts} {a b : Nd} (h1 : Reads (k + 1) l a l1) (h2 : Mores k a l1 b r) : Reads k l b r := by
  obtain ⟨f1, h1⟩ := h1
  obtain ⟨f2, h2⟩ := h2
  refine ⟨f1 + f2 + 1, fun g hg => ?_⟩
  obtain ⟨g, rfl⟩ : ∃ f, g = f + 1 := ⟨g - 1, by omega⟩
  rw [read, if_neg (by omega), h1 g (by omega)]
  simp only
  exact h2 g (by omega)
/-- What is read of a rank stands so of a lower one, if nothing of these stands behind. -/
theorem Reads.down {l r : List Bts} {a : Nd} {j : Nat} (h : Reads j l a r) (hj : j ≤ 7) : ∀ d k, k + d = j → (∀ o t, r = o :: t → rank o < k ∨ j ≤ rank o) → Reads k l a r := by
  intro d
  induction d with
  | zero => intro k hk _; rw [show k = j by omega]; exact h
  | succ d ih =>
    intro k hk hr
    refine Reads.next (by omega) (ih (k + 1) (by omega) fun o t e => ?_) ?_
    · have := hr o t e; omega
    · cases r with
      | nil => exact Mores.nil _ _
      | cons o t => exact Mores.no (by have := hr o t rfl; omega) _ _
theorem Reads.val {s : Bts} (h : Free s) (r : List Bts) (k : Nat) (hk : k ≤ 7) (hr : ∀ o t, r = o :: t → rank o < k) : Reads k (s :: r) (.val s) r :=
  (Reads.top (Opers.free h r)).down (Nat.le_refl _) (7 - k) k (by omega) fun o t e => .inl (hr o t e)
/-- Two values and a sign. -/
theorem Reads.two {x o y : Bts} (hx : Free x) (hy : Free y) (j : Nat) (hj : rank o = j) (h1 : 1 ≤ j) (h6 : j ≤ 6) : Reads 1 [x, o, y] (.bin o (.val x) (.val y)) [] :=
  (Reads.next h6 (Reads.val hx [o, y] (j + 1) (by omega) fun p t e => by injection e with e1 _; subst e1; omega)
    (Mores.yes hj (Reads.val hy [] (j + 1) (by omega) fun _ _ e => by cases e) (Mores.nil _ _))).down (by omega) (j - 1) 1 (by omega) fun _ _ e => by cases e
/-- What is in parentheses, and a sign behind it. -/
theorem Reads.paren_two {l : List Bts} {n : Nd} {o y : Bts} (h : Reads 1 l n ([41] :: [o, y])) (hy : Free y) (j : Nat) (hj : rank o = j) (h1 : 1 ≤ j) (h6 : j ≤ 6) : Reads 1 ([40] :: l) (.bin o n (.val y)) [] :=
  (Reads.next h6 ((Reads.top (Opers.paren h)).down (Nat.le_refl _) (7 - (j + 1)) (j + 1) (by omega) fun p t e => by injection e with e1 _; subst e1; omega)
    (Mores.yes hj (Reads.val hy [] (j + 1) (by omega) fun _ _ e => by cases e) (Mores.nil _ _))).down (by omega) (j - 1) 1 (by omega) fun _ _ e => by cases e
/-- Two values and a sign, ahead of a shut parenthesis. -/
theorem Reads.two_shut {x o y : Bts} (r : List Bts) (hx : Free x) (hy : Free y) (j : Nat) (hj : rank o = j) (h1 : 1 ≤ j) (h6 : j ≤ 6) : Reads 1 (x :: o :: y :: [41] :: r) (.bin o (.val x) (.val y)) ([41] :: r) :=
  (Reads.next h6 (Reads.val hx (o :: y :: [41] :: r) (j + 1) (by omega) fun p t e => by injection e with e1 _; subst e1; omega)
    (Mores.yes hj (Reads.val hy ([41] :: r) (j + 1) (by omega) fun p t e => by injection e with e1 _; subst e1; exact Nat.lt_of_le_of_lt (Nat.le_of_eq (show rank [41] = 0 from rfl)) (by omega)) (Mores.no (by show 0 ≠ j; omega) _ _))).down (by omega) (j - 1) 1 (by omega) fun p t e => by
      injection e with e1 _; subst e1; left; exact Nat.lt_of_le_of_lt (Nat.le_of_eq (show rank [41] = 0 from rfl)) (by decide)
/-- x / y * y + x % y. -/
theorem Reads.rests {x y : Bts} (hx : Free x) (hy : Free y) : Reads 1 [x, [47], y, [42], y, [43], x, [37], y] (.bin [43] (.bin [42] (.bin [47] (.val x) (.val y)) (.val y)) (.bin [37] (.val x) (.val y))) [] := by
  have ff : ∀ (k : Nat) (o : Bts) (t : List Bts), rank o < k → ∀ p t', (o :: t) = p :: t' → rank p < k := fun k o t h p t' e => by injection e with e1 _; subst e1; exact h
  have a1 : Reads 5 [x, [47], y, [42], y, [43], x, [37], y] (.bin [42] (.bin [47] (.val x) (.val y)) (.val y)) [[43], x, [37], y] :=
    Reads.next (by decide) (Reads.val hx _ 6 (by decide) (ff _ _ _ (by decide))) (Mores.yes (by decide) (Reads.val hy _ 6 (by decide) (ff _ _ _ (by decide))) (Mores.yes (by decide) (Reads.val hy _ 6 (by decide) (ff _ _ _ (by decide))) (Mores.no (by decide) _ _)))
  have a2 : Reads 5 [x, [37], y] (.bin [37] (.val x) (.val y)) [] :=
    Reads.next (by decide) (Reads.val hx _ 6 (by decide) (ff _ _ _ (by decide))) (Mores.yes (by decide) (Reads.val hy _ 6 (by decide) fun _ _ e => by cases e) (Mores.nil _ _))
  exact (Reads.next (by decide) a1 (Mores.yes (by decide) a2 (Mores.nil _ _))).down (by decide) 3 1 rfl fun _ _ e => by cases e
/-- 1 + 2 * 3. -/
theorem Reads.sums {x y z : Bts} (hx : Free x) (hy : Free y) (hz : Free z) : Reads 1 [x, [43], y, [42], z] (.bin [43] (.val x) (.bin [42] (.val y) (.val z))) [] := by
  have ff : ∀ (k : Nat) (o : Bts) (t : List Bts), rank o < k → ∀ p t', (o :: t) = p :: t' → rank p < k := fun k o t h p t' e => by injection e with e1 _; subst e1; exact h
  have a1 : Reads 5 [x, [43], y, [42], z] (.val x) [[43], y, [42], z] := Reads.val hx _ 5 (by decide) (ff _ _ _ (by decide))
  have a2 : Reads 5 [y, [42], z] (.bin [42] (.val y) (.val z)) [] :=
    Reads.next (by decide) (Reads.val hy _ 6 (by decide) (ff _ _ _ (by decide))) (Mores.yes (by decide) (Reads.val hz _ 6 (by decide) fun _ _ e => by cases e) (Mores.nil _ _))
  exact (Reads.next (by decide) a1 (Mores.yes (by decide) a2 (Mores.nil _ _))).down (by decide) 3 1 rfl fun _ _ e => by cases e

/-- What an expression comes to. -/
def Tells (found : Bts → Bts → Option (Except Bad Bts)) (l : List Bts) (x : Except Bad Bts) : Prop := ∃ f, expr found f l = some x
theorem Tells.of {found : Bts → Bts → Option (Except Bad Bts)} {l : List Bts} {n : Nd} {x : Except Bad Bts} (h : Reads 1 l n []) (hr : reckon found n = some x) : Tells found l x := by
  obtain ⟨f, h⟩ := h
  exact ⟨f, by unfold expr; rw [h f (Nat.le_refl _)]; simp only [if_true, hr]⟩
theorem reckon_bin {found : Bts → Bts → Option (Except Bad Bts)} {o : Bts} {a b : Nd} {u v : Bts} (ha : reckon found a = some (.ok u)) (hb : reckon found b = some (.ok v)) (hu : u.length ≤ 100000000) (hv : v.length ≤ 100000000) : reckon found (.bin o a b) = op found o u v := by
  rw [reckon, ha]
  simp only [hb]
  rw [if_pos ⟨hu, hv⟩]
theorem reckon_val (found : Bts → Bts → Option (Except Bad Bts)) (s : Bts) : reckon found (.val s) = some (.ok s) := by rw [reckon]
theorem reckon_two (found : Bts → Bts → Option (Except Bad Bts)) (o x y : Bts) (hx : x.length ≤ 100000000) (hy : y.length ≤ 100000000) : reckon found (.bin o (.val x) (.val y)) = op found o x y := reckon_bin (reckon_val _ _) (reckon_val _ _) hx hy
theorem Tells.two {found : Bts → Bts → Option (Except Bad Bts)} {x o y : Bts} {r : Except Bad Bts} (hx : Free x) (hy : Free y) (lx : x.length ≤ 100000000) (ly : y.length ≤ 100000000) (h1 : 1 ≤ rank o) (h6 : rank o ≤ 6) (h : op found o x y = some r) : Tells found [x, o, y] r :=
  Tells.of (Reads.two hx hy (rank o) rfl h1 h6) (by rw [reckon_two _ _ _ _ lx ly, h])

/-! Signs between numbers. -/
section
variable (found : Bts → Bts → Option (Except Bad Bts)) (n m : Int) (h1 : -4611686018427387904 ≤ n) (h2 : n ≤ 4611686018427387903) (h3 : -4611686018427387904 ≤ m) (h4 : m ≤ 4611686018427387903)
include h1 h2 h3 h4
theorem nums_small : nums (Lib.itoa n) (Lib.itoa m) = .ok (n, m) := nums_itoa n m (by omega) (by omega) (by omega) (by omega)
theorem small_two : (small n && small m) = true := by unfold small; simp; omega
theorem op_add : op found [43] (Lib.itoa n) (Lib.itoa m) = some (.ok (Lib.itoa (n + m))) := by
  unfold op whole addN
  rw [if_neg (by decide), if_neg (by decide), if_neg (by decide), if_pos rfl, nums_small n m h1 h2 h3 h4]
  simp only [small_two n m h1 h2 h3 h4]
  rfl
theorem op_sub : op found [45] (Lib.itoa n) (Lib.itoa m) = some (.ok (Lib.itoa (n - m))) := by
  unfold op whole subN
  rw [if_neg (by decide), if_neg (by decide), if_neg (by decide), if_neg (by decide), if_pos rfl, nums_small n m h1 h2 h3 h4]
  simp only [small_two n m h1 h2 h3 h4]
  rfl
theorem op_div (h0 : m ≠ 0) : op found [47] (Lib.itoa n) (Lib.itoa m) = some (.ok (Lib.itoa (n.tdiv m))) := by
  unfold op whole divN
  rw [if_neg (by decide), if_neg (by decide), if_neg (by decide), if_neg (by decide), if_neg (by decide), if_neg (by decide), if_pos rfl, nums_small n m h1 h2 h3 h4]
  simp only [small_two n m h1 h2 h3 h4, if_neg h0]
  rfl
theorem op_mod (h0 : m ≠ 0) : op found [37] (Lib.itoa n) (Lib.itoa m) = some (.ok (Lib.itoa (n.tmod m))) := by
  unfold op whole modN
  rw [if_neg (by decide), if_neg (by decide), if_neg (by decide), if_neg (by decide), if_neg (by decide), if_neg (by decide), if_neg (by decide), if_pos rfl, nums_small n m h1 h2 h3 h4]
  simp only [small_two n m h1 h2 h3 h4, if_neg h0]
  rfl
end
theorem op_mul (found : Bts → Bts → Option (Except Bad Bts)) (n m : Int) (h1 : -2147483648 ≤ n) (h2 : n ≤ 2147483648) (h3 : -2147483648 ≤ m) (h4 : m ≤ 2147483648) : op found [42] (Lib.itoa n) (Lib.itoa m) = some (.ok (Lib.itoa (n * m))) := by
  have ht : (tiny n && tiny m) = true := by unfold tiny; simp; omega
  unfold op whole mulN
  rw [if_neg (by decide), if_neg (by decide), if_neg (by decide), if_neg (by decide), if_neg (by decide), if_pos rfl, nums_small n m (by omega) (by omega) (by omega) (by omega)]
  simp only [ht]
  rfl
theorem op_div0 (found : Bts → Bts → Option (Except Bad Bts)) (n : Int) (h1 : -2147483648 ≤ n) (h2 : n ≤ 2147483648) : op found [47] (Lib.itoa n) (Lib.itoa 0) = some (.error ([], 25)) ∧ op found [37] (Lib.itoa n) (Lib.itoa 0) = some (.error ([], 25)) := by
  have hn := nums_small n 0 (by omega) (by omega) (by omega) (by omega)
  unfold op whole divN modN
  rw [hn]
  exact ⟨rfl, rfl⟩

end Go.Proofs.YtfgmmaahbngonaaGreatDoor.Lg

/-
  The walks of logic's number, numbers and null. Conditions: the texts are no longer than memory allows; what the library's variables hold.
-/
namespace Go.Proofs.YtfgmmaahbngonaaGreatDoor
open Go.RowKit Go.Shelf Go.Maps

theorem digit_contains (c : UInt8) : List.contains [48, 49, 50, 51, 52, 53, 54, 55, 56, 57] c = Lg.digit c := by
  rw [Bool.eq_iff_iff]
  simp [Lg.digit, u8_eq, u8_le]
  omega
theorem dw_nil (p : UInt8 → Bool) : ∀ l : Bts, l.dropWhile p = [] ↔ ∀ x ∈ l, p x = true
  | [] => by simp
  | a :: r => by
    rw [List.dropWhile_cons]
    cases h : p a with
    | true => simp [dw_nil p r, h]
    | false => simp [h]
theorem tw_mem (p : UInt8 → Bool) : ∀ (l : Bts) (x : UInt8), x ∈ l.takeWhile p → p x = true
  | [], x, h => by cases h
  | a :: r, x, h => by
    rw [List.takeWhile_cons] at h
    cases ha : p a with
    | true =>
      rw [ha] at h
      rcases List.mem_cons.1 h with rfl | h
      · exact ha
      · exact tw_mem p r x h
    | false => rw [ha] at h; cases h
theorem trim_digits (d : Bts) : Lib.trimS d [48, 49, 50, 51, 52, 53, 54, 55, 56, 57] = [] ↔ d.all Lg.digit = true := by
  have hp : (fun c => List.contains [48, 49, 50, 51, 52, 53, 54, 55, 56, 57] c) = Lg.digit := funext digit_contains
  unfold Lib.trimS Lib.trimLeftS Lib.trimRightS
  rw [hp]
  constructor
  · intro h
    have h1 := (dw_nil _ _).1 h
    rw [List.all_eq_true]
    intro x hx
    have hs : d.reverse.takeWhile Lg.digit ++ d.reverse.dropWhile Lg.digit = d.reverse := List.takeWhile_append_dropWhile
    have hm : x ∈ d.reverse := List.mem_reverse.2 hx
    rw [← hs] at hm
    rcases List.mem_append.1 hm with hm | hm
    · exact tw_mem _ _ _ hm
    · exact h1 x (List.mem_reverse.2 hm)
  · intro h
    rw [List.all_eq_true] at h
    have h1 : d.reverse.dropWhile Lg.digit = [] := (dw_nil _ _).2 fun x hx => h x (List.mem_reverse.1 hx)
    rw [h1]
    rfl
theorem cut_body (s : Bts) : Lib.trimPrefix s [45] = Lg.body s := by
  unfold Lib.trimPrefix Lib.hasPrefix Lg.body Lg.minus
  cases s with
  | nil => rfl
  | cons c r =>
    by_cases h : c = 45
    · subst h; rfl
    · have h2 : ¬ (45 : UInt8) = c := fun e => h e.symm
      simp [List.isPrefixOf, h, h2]

theorem parse_body (s : Bts) (h0 : Lg.body s ≠ []) (ha : (Lg.body s).all Lg.digit = true) : Lib.parseIntB 64 s = if -9223372036854775808 ≤ Lg.sval s ∧ Lg.sval s ≤ 9223372036854775807 then .ok (Lg.sval s) else .range := by
  cases hm : Lg.minus s with
  | false =>
    have hb : Lg.body s = s := by unfold Lg.body; rw [hm]; rfl
    rw [hb] at h0 ha
    have hv : Lg.sval s = (Ord.value s : Int) := by unfold Lg.sval; rw [hm, hb]; rfl
    rw [Ord.parseIntB_digits s ha h0, hv]
    by_cases h : Ord.value s < 9223372036854775808
    · rw [if_pos h, if_pos (by omega)]
    · rw [if_neg h, if_neg (by omega)]
  | true =>
    obtain ⟨r, rfl⟩ : ∃ r, s = 45 :: r := by
      unfold Lg.minus at hm
      cases s with
      | nil => cases hm
      | cons c r => exact ⟨r, by simp at hm; rw [hm]⟩
    have hb : Lg.body (45 :: r) = r := rfl
    rw [hb] at h0 ha
    have hv : Lg.sval (45 :: r) = -(Ord.value r : Int) := rfl
    have hu : Lib.parseUintB 64 r = if Ord.value r ≤ 18446744073709551615 then .ok (Ord.value r) else .range := by
      unfold Lib.parseUintB
      rw [if_neg h0]
      exact Ord.parseUintM_digits r 0 ha (by omega)
    have hi1 : ∀ u, Lib.parseUintB 64 r = .ok u → Lib.parseIntB 64 (45 :: r) = if 9223372036854775808 < u then .range else .ok (-(u : Int)) := fun u h => by
      unfold Lib.parseIntB
      simp [h]
    have hi2 : Lib.parseUintB 64 r = .range → Lib.parseIntB 64 (45 :: r) = .range := fun h => by
      unfold Lib.parseIntB
      simp [h]
    rw [hv]
    by_cases h1 : Ord.value r ≤ 18446744073709551615
    · rw [if_pos h1] at hu
      rw [hi1 _ hu]
      by_cases h2 : 9223372036854775808 < Ord.value r
      · rw [if_pos h2, if_neg (by omega)]
      · rw [if_neg h2, if_pos (by omega)]
    · rw [if_neg h1] at hu
      rw [hi2 hu, if_neg (by omega)]

/-- What number hands back. -/
def NumVal (s : Bts) (v : Value) : Prop := match Lg.num s with
  | some n => v = .tuple #[.int .i64 n, .bool true]
  | none => ∃ n, v = .tuple #[.int .i64 n, .bool false]

set_option maxRecDepth 100000 in
theorem lnumber_any (s : Bts) (hl : s.length ≤ 140737488351232) (w : World) (hg : Glo w) :
    Calls Tryz.prog 115 #[.string ⟨s.toArray⟩] w fun e w' => ∃ v, e = .returned v ∧ NumVal s v ∧ Below w.heap.size w w' := by
  have hcut : Calls Tryz.prog 116 #[.string ⟨s.toArray⟩, .string ⟨#[45]⟩] w fun e w' => e = .returned (.tuple #[.string ⟨(Lg.body s).toArray⟩, .bool (Lib.hasPrefix s [45])]) ∧ w' = w := by
    have := Any.strings_CutPrefix Tryz.lays103 ⟨s.toArray⟩ ⟨#[45]⟩ w
    rw [← cut_body]
    exact this
  have hbl : (Lg.body s).length ≤ s.length := by
    unfold Lg.body
    split
    · simp
    · exact Nat.le_refl _
  by_cases h0 : Lg.body s = []
  · have hv : NumVal s (.tuple #[.int .i64 0, .bool false]) := by
      unfold NumVal Lg.num
      rw [h0]
      exact ⟨0, rfl⟩
    rw [h0] at hcut
    clear hbl h0
    go_enter Tryz.func115, Tryz.ntmps115
    go_wp2_with fail
    refine hcut.mono ?_
    rintro e w1 ⟨rfl, rfl⟩
    go_wp2_with fail
    go_ret2
    exact ⟨_, rfl, hv, Below.refl _ _⟩
  have htrim : Calls Tryz.prog 154 #[.string ⟨(Lg.body s).toArray⟩, .string ⟨#[48, 49, 50, 51, 52, 53, 54, 55, 56, 57]⟩] w fun e w' => e = .returned (.string ⟨(Lib.trimS (Lg.body s) [48, 49, 50, 51, 52, 53, 54, 55, 56, 57]).toArray⟩) ∧ Below w.heap.size w w' :=
    Any.strings_Trim_laid Tryz.lays160 (by kernel_rfl) ⟨(Lg.body s).toArray⟩ ⟨#[48, 49, 50, 51, 52, 53, 54, 55, 56, 57]⟩ w (by simp [ByteArray.size]; omega) (by decide) (ascii_of_all (by decide))
  have e0 : (Lg.body s).isEmpty = false := by simpa using h0
  have e00 : (Lg.body s == []) = false := by simpa using h0
  cases ha : (Lg.body s).all Lg.digit with
  | false =>
    have hne := mt (trim_digits (Lg.body s)).1 (by rw [ha]; decide)
    have e1 : (Lib.trimS (Lg.body s) [48, 49, 50, 51, 52, 53, 54, 55, 56, 57]).isEmpty = false := by simpa using hne
    have e11 : (Lib.trimS (Lg.body s) [48, 49, 50, 51, 52, 53, 54, 55, 56, 57] == []) = false := by simpa using hne
    have hv : NumVal s (.tuple #[.int .i64 0, .bool false]) := by
      unfold NumVal Lg.num
      rw [ha]
      simp
    generalize Lib.trimS (Lg.body s) [48, 49, 50, 51, 52, 53, 54, 55, 56, 57] = T at *
    generalize Lg.body s = d at *
    have n0 := h0
    have n1 := hne
    clear ha
    go_enter Tryz.func115, Tryz.ntmps115
    go_wp2_with fail
    refine hcut.mono ?_
    rintro e w1 ⟨rfl, rfl⟩
    go_wp2_with fail
    refine htrim.mono ?_
    rintro e w2 ⟨rfl, hb⟩
    go_wp2_with fail
    go_ret2
    exact ⟨_, rfl, hv, hb⟩
  | true =>
    have hp := parse_body s h0 ha
    rw [(trim_digits (Lg.body s)).2 ha] at htrim
    have hfin : ∃ P : Value → Prop, (∀ v, P v → NumVal s v) ∧ ∀ w1, Below w.heap.size w w1 → Calls Tryz.prog 155 #[.string ⟨s.toArray⟩, .int .i64 10, .int .i64 64] w1 fun e w' => ∃ n err, e = .returned (.tuple #[.int .i64 n, err]) ∧ ((err = .nilIface ∧ P (.tuple #[.int .i64 n, .bool true])) ∨ ∃ t a, err = .iface t (.pointer (some a)) ∧ P (.tuple #[.int .i64 n, .bool false])) ∧ Below w.heap.size w w' := by
      refine ⟨NumVal s, fun _ h => h, fun w1 hb1 => ?_⟩
      by_cases hr : -9223372036854775808 ≤ Lg.sval s ∧ Lg.sval s ≤ 9223372036854775807
      · rw [if_pos hr] at hp
        refine (Any.strconv_ParseInt_10_at64_ok Tryz.laysC174 ⟨s.toArray⟩ (by simp [ByteArray.size]; omega) (Lg.sval s) hp w1).mono fun e w' ⟨he, hw⟩ => ⟨_, _, he, .inl ⟨rfl, ?_⟩, ?_⟩
        · unfold NumVal Lg.num
          rw [ha, if_pos]
          simp [h0]
          omega
        · rcases hw with rfl | ⟨t, rfl⟩
          · exact hb1
          · exact hb1.trans ((Lib.bytesWorld_below _ _ _).mono hb1.size)
      · rw [if_neg hr] at hp
        obtain ⟨-, ⟨t2, p2, h2⟩, -⟩ := hg.below hb1
        refine (Any.strconv_ParseInt_10_at64_range_var Tryz.laysC174 ⟨s.toArray⟩ (by simp [ByteArray.size]; omega) hp t2 p2 w1 h2).mono fun e w' ⟨N, he, _, _, hb⟩ => ⟨_, _, he, .inr ⟨_, _, rfl, ?_⟩, hb1.trans (hb.mono hb1.size)⟩
        unfold NumVal Lg.num
        rw [ha, if_neg]
        · exact ⟨_, rfl⟩
        · simp
          omega
    obtain ⟨P, hP, hpi⟩ := hfin
    have HP := Lib.hid hP
    clear hp hbl h0 ha hg hP
    generalize Lg.body s = d at *
    go_enter Tryz.func115, Tryz.ntmps115
    go_wp2_with fail
    refine hcut.mono ?_
    rintro e w1 ⟨rfl, rfl⟩
    go_wp2_with fail
    refine htrim.mono ?_
    rintro e w2 ⟨rfl, hb⟩
    have hpi := hpi w2 hb
    go_wp2_with fail
    refine hpi.mono ?_
    rintro e w3 ⟨n, err, rfl, hcase, hb3⟩
    rcases hcase with ⟨rfl, hv⟩ | ⟨t, a, rfl, hv⟩
    · go_wp2_with fail
      go_region
      go_wp2_with fail
      go_ret2
      exact ⟨_, rfl, HP.out _ hv, hb3.drew⟩
    · go_wp2_with fail
      go_region
      go_wp2_with fail
      go_ret2
      exact ⟨_, rfl, HP.out _ hv, hb3.drew⟩

/-- An error of logic's in memory. -/
def BadAt (W : World) (B : Nat) (v : Value) (x : Lg.Bad) : Prop := ∃ q, v = .iface 190 (.pointer (some ⟨q, 0, none⟩)) ∧ B ≤ q ∧ Blk W q #[.string ⟨x.1.toArray⟩, .int .i64 x.2] 194
theorem BadAt.below {W W' : World} {B : Nat} {v : Value} {x : Lg.Bad} (h : BadAt W B v x) (hb : Below W.heap.size W W') : BadAt W' B v x := by
  obtain ⟨q, h1, h2, h3⟩ := h
  exact ⟨q, h1, h2, h3.keep hb h3.lt⟩
/-- What numbers hands back. -/
def NumsVal (W : World) (B : Nat) (x : Except Lg.Bad (Int × Int)) (v : Value) : Prop := match x with
  | .ok (n, m) => v = .tuple #[.int .i64 n, .int .i64 m, .nilIface]
  | .error b => ∃ e, v = .tuple #[.int .i64 0, .int .i64 0, e] ∧ BadAt W B e b

set_option maxRecDepth 100000 in
theorem lnumbers_any (a b : Bts) (ha : a.length ≤ 140737488351232) (hb : b.length ≤ 140737488351232) (w : World) (hg : Glo w) :
    Calls Tryz.prog 111 #[.string ⟨a.toArray⟩, .string ⟨b.toArray⟩] w fun e w' => ∃ v, e = .returned v ∧ NumsVal w' w.heap.size (Lg.nums a b) v ∧ Below w.heap.size w w' := by
  have hna := lnumber_any a ha w hg
  have hnb := fun w1 (h : Below w.heap.size w w1) => lnumber_any b hb w1 (hg.below h)
  unfold NumVal at hna hnb
  have HNB := Lib.hid hnb
  clear hg hnb
  unfold Lg.nums
  cases hx : Lg.num a with
  | none =>
    rw [hx] at hna
    clear hx HNB
    go_enter Tryz.func111, Tryz.ntmps111
    go_wp2_with fail
    refine hna.mono ?_
    rintro e w1 ⟨v, rfl, ⟨n, rfl⟩, hb1⟩
    go_wp2_with fail
    go_ret3
    exact ⟨_, rfl, ⟨_, rfl, _, rfl, hb1.size, Blk.new _ _ _⟩, hb1.alloc hb1.size _⟩
  | some n =>
    rw [hx] at hna
    simp only
    cases hy : Lg.num b with
    | none =>
      have HY := Lib.hid hy
      clear hx hy
      go_enter Tryz.func111, Tryz.ntmps111
      go_wp2_with fail
      refine hna.mono ?_
      rintro e w1 ⟨v, rfl, rfl, hb1⟩
      have hnb := HNB.out w1 hb1
      rw [HY.out] at hnb
      have HB1 := Lib.hid hb1
      clear hb1 hna
      go_wp2_with fail
      refine hnb.mono ?_
      rintro e w2 ⟨v, rfl, ⟨m, rfl⟩, hb2⟩
      have hbb := HB1.out.trans (hb2.mono HB1.out.size)
      go_wp2_with fail
      go_ret3
      exact ⟨_, rfl, ⟨_, rfl, _, rfl, hbb.size, Blk.new _ _ _⟩, hbb.alloc hbb.size _⟩
    | some m =>
      have HY := Lib.hid hy
      clear hx hy
      go_enter Tryz.func111, Tryz.ntmps111
      go_wp2_with fail
      refine hna.mono ?_
      rintro e w1 ⟨v, rfl, rfl, hb1⟩
      have hnb := HNB.out w1 hb1
      rw [HY.out] at hnb
      have HB1 := Lib.hid hb1
      clear hb1 hna
      go_wp2_with fail
      refine hnb.mono ?_
      rintro e w2 ⟨v, rfl, rfl, hb2⟩
      have hbb := HB1.out.trans (hb2.mono HB1.out.size)
      go_wp2_with fail
      go_ret3
      exact ⟨_, rfl, rfl, hbb⟩

set_option maxRecDepth 100000 in
theorem null_any (s : Bts) (hl : s.length ≤ 140737488351232) (w : World) (hg : Glo w) :
    Calls Tryz.prog 64 #[.string ⟨s.toArray⟩] w fun e w' => e = .returned (.bool (Lg.null s)) ∧ Below w.heap.size w w' := by
  have hn := lnumber_any s hl w hg
  unfold NumVal at hn
  clear hg
  unfold Lg.null
  cases hx : Lg.num s with
  | none =>
    rw [hx] at hn
    by_cases h0 : s = []
    · subst h0
      clear hx
      go_enter Tryz.func64, Tryz.ntmps64
      go_wp2_with fail
      refine hn.mono ?_
      rintro e w1 ⟨v, rfl, ⟨n, rfl⟩, hb1⟩
      go_wp2_with fail
      go_ret
      exact ⟨rfl, hb1⟩
    · have e0 : (s == []) = false := by simpa using h0
      have e1 : s.isEmpty = false := by simpa using h0
      rw [e1]
      clear hx h0
      go_enter Tryz.func64, Tryz.ntmps64
      go_wp2_with fail
      refine hn.mono ?_
      rintro e w1 ⟨v, rfl, ⟨n, rfl⟩, hb1⟩
      go_wp2_with fail
      go_ret
      exact ⟨rfl, hb1⟩
  | some n =>
    rw [hx] at hn
    have h0 : s ≠ [] := by rintro rfl; cases hx
    have e0 : (s == []) = false := by simpa using h0
    have e1 : s.isEmpty = false := by simpa using h0
    have e2 : (some n == some (0 : Int)) = (n == 0) := rfl
    rw [e1, e2]
    clear hx h0 e2
    go_enter Tryz.func64, Tryz.ntmps64
    go_wp2_with fail
    refine hn.mono ?_
    rintro e w1 ⟨v, rfl, rfl, hb1⟩
    go_wp2_with fail
    go_ret
    exact ⟨by simp, hb1⟩

end Go.Proofs.YtfgmmaahbngonaaGreatDoor
