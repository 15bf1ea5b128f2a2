/-
  The plain law of WordCuts: what the words that it asks of are told to be. No program in sight. No condition but the lengths that the law names.
-/
import Derived.Test.YtfoehfehnmhhmaaGreatDoorSpec
namespace Go.Proofs.YtfoehfehnmhhmaaGreatDoor.Wd
open Go

theorem cutF_first (p v : Bytes) (back : Bool) (k : Nat) (l : List Nat) (hk : k ∈ l) (h : ∀ n ∈ l, glob p (if back then v.drop (v.length - n) else v.take n) = some (decide (n = k))) :
    cutF p v back l = some (if back then v.take (v.length - k) else v.drop k) := by
  induction l with
  | nil => simp at hk
  | cons n r ih =>
    unfold cutF
    rw [h n (by simp)]
    by_cases e : n = k
    · subst e; simp
    · simp only [e, decide_false]
      refine ih ?_ fun m hm => h m (by simp [hm])
      rcases List.mem_cons.1 hk with h1 | h1
      · exact absurd h1.symm e
      · exact h1
theorem cutF_none (p v : Bytes) (back : Bool) (l : List Nat) (h : ∀ n ∈ l, glob p (if back then v.drop (v.length - n) else v.take n) = some false) :
    cutF p v back l = some v := by
  induction l with
  | nil => rfl
  | cons n r ih =>
    unfold cutF
    rw [h n (by simp)]
    exact ih fun m hm => h m (by simp [hm])

/-- A pattern without signs. -/
def lit (t : Bytes) : Bytes := t.flatMap fun c => [92, c]
theorem glob_lit (t : Bytes) : ∀ (f : Nat) (s : Bytes), t.length < f → globF f (lit t) s [] [] false = some (decide (s = t)) := by
  induction t with
  | nil =>
    intro f s hf
    cases f with
    | zero => simp at hf
    | succ f =>
      cases s with
      | nil => rfl
      | cons c r => simp [globF, lit]
  | cons d t ih =>
    intro f s hf
    cases f with
    | zero => simp at hf
    | succ f =>
      have hl : lit (d :: t) = 92 :: d :: lit t := rfl
      rw [hl]
      cases s with
      | nil => simp [globF]
      | cons c r =>
        have := ih f r (by simpa using hf)
        by_cases e : d = c
        · subst e
          simp [globF, oneOf, this]
        · have e2 : (d == c) = false := by simpa using e
          have e3 : ¬ c = d := fun h => e h.symm
          simp [globF, oneOf, e2, e3]
theorem glob_all (s : Bytes) : ∀ f, s.length < f → globF f [] s [] s true = some true := by
  induction s with
  | nil => intro f hf; cases f with | zero => simp at hf | succ f => rfl
  | cons c r ih =>
    intro f hf
    cases f with
    | zero => simp at hf
    | succ f => simpa [globF] using ih f (by simpa using hf)
theorem glob_star (s : Bytes) : ∀ f b r, s.length + 1 < f → globF f [42] s b r false = some true := by
  intro f b r hf
  cases f with
  | zero => simp at hf
  | succ f => simpa [globF] using glob_all s f (by omega)
theorem glob_slash (s : Bytes) : ∀ f, s.length + 3 < f → globF f [47, 42] s [] [] false = some (decide (s.head? = some 47)) := by
  intro f hf
  cases f with
  | zero => simp at hf
  | succ f =>
    cases s with
    | nil => simp [globF]
    | cons c r =>
      by_cases e : (47 : UInt8) = c
      · subst e
        have : globF f [42] r [] [] false = some true := glob_star r f _ _ (by simp at hf; omega)
        simp [globF, oneOf, this]
      · have e2 : ((47 : UInt8) == c) = false := by simpa using e
        have e3 : ¬ c = 47 := fun h => e h.symm
        simp [globF, oneOf, e2, e3]
theorem glob_upto (s : Bytes) : ∀ f, 2 * s.length + 1 < f → globF f [47] s [47] s true = some (decide (s.getLast? = some 47)) := by
  induction s with
  | nil =>
    intro f hf
    cases f with
    | zero => simp at hf
    | succ f => simp [globF]
  | cons c r ih =>
    intro f hf
    cases f with
    | zero => simp at hf
    | succ f =>
      cases f with
      | zero => simp at hf
      | succ f =>
        have h1 := ih f (by simp at hf; omega)
        have h2 := ih (f + 1) (by simp at hf; omega)
        by_cases e : (47 : UInt8) = c
        · subst e
          cases r with
          | nil => simp [globF, oneOf]
          | cons d r => simp [globF, oneOf, ← h1, List.getLast?_cons_cons]
        · have e2 : ((47 : UInt8) == c) = false := by simpa using e
          have e3 : ¬ c = 47 := fun h => e h.symm
          cases r with
          | nil => simp [globF, oneOf, e2, e3]
          | cons d r =>
            rw [List.getLast?_cons_cons, ← h2]
            rw [globF.eq_def]
            simp [oneOf, e2]
theorem glob_ends (s : Bytes) : ∀ f, 2 * s.length + 2 < f → globF f [42, 47] s [] [] false = some (decide (s.getLast? = some 47)) := by
  intro f hf
  cases f with
  | zero => simp at hf
  | succ f => rw [← glob_upto s f (by omega)]; simp [globF]
theorem run_dollar (f : Nat) (x : Ex) (r : Bytes) (inq : Bool) (n : Nat) (x2 : Ex) (m : Nat) (hl : x.l.length ≤ lim) (hp : pieceN (36 :: r) inq = .ok n)
    (hd : dollar f x (36 :: r) ((36 :: r).take n) inq = some (x2, m)) (hm : m ≤ r.length + 1) : run (f + 1) x (36 :: r) inq = run f x2 ((36 :: r).drop m) inq := by
  rw [run.eq_def]
  simp only
  rw [if_neg (by omega), hp]
  simp only
  rw [if_neg (by decide), if_neg (by simp), if_neg (by simp), if_pos trivial, hd]
  simp only
  rw [if_pos (by simpa using hm)]
theorem dollar_braced (f : Nat) (x : Ex) (s p : Bytes) (inq : Bool) (x2 : Ex) (hl : 3 ≤ p.length) (h : braced f x ((p.take (p.length - 1)).drop 2) inq = some x2) :
    dollar (f + 1) x s p inq = some (x2, p.length) := by
  rw [dollar.eq_def]
  simp only
  rw [if_pos (by omega), if_neg (by omega), h]
theorem braced_cut (f : Nat) (x : Ex) (c : UInt8) (r : Bytes) (inq : Bool) (k : Nat) (o : UInt8) (w v : Bytes) (l : List Un) (u : Bytes) (hc : c ≠ 35) (hn : named (c :: r) = k + 1) (hd : r.drop k = o :: w)
    (ho : o = 37 ∨ o = 35) (hv : get x.vars (c :: r.take k) = some v) (hi : inner f x (if pre [o] w then w.drop 1 else w) = some l)
    (hu : cutF (pattern l) v (o == 37) (if pre [o] w then (List.range (v.length + 1)).reverse else List.range (v.length + 1)) = some u) :
    braced (f + 1) x (c :: r) inq = some (x.result u inq) := by
  rw [braced.eq_def]
  simp only
  rw [if_neg hc, if_neg (by omega), hn]
  simp only [List.drop_succ_cons, List.take_succ_cons, hd, hv]
  rw [if_pos ho, hi]
  simp only [hu]
theorem inner_of (f : Nat) (x : Ex) (s : Bytes) (y : Ex) (h : run f ⟨x.vars, x.args, x.status, [], true⟩ s false = some y) (hl : y.l.length ≤ lim) : inner (f + 1) x s = some y.l := by
  rw [inner.eq_def]
  simp only
  rw [h]
  simp only
  rw [if_neg (by omega)]
theorem run_nil (f : Nat) (x : Ex) (inq : Bool) : run (f + 1) x [] inq = some x := by
  rw [run.eq_def]

/-- A parameter with a pattern behind it. -/
theorem run_cut (f : Nat) (vars : List Bytes) (l0 : List Un) (one : Bool) (r rest : Bytes) (hl : l0.length ≤ lim) (o : UInt8) (w v : Bytes) (l : List Un) (u : Bytes)
    (hp : pieceN (36 :: (r ++ rest)) false = .ok (r.length + 1)) (hr : r = 123 :: 86 :: o :: w ++ [125]) (ho : o = 37 ∨ o = 35) (hno : named (86 :: o :: w) = 1) (hv : get vars [86] = some v)
    (hi : ∀ x : Ex, x.vars = vars → x.args = [] → inner f x (if pre [o] w then w.drop 1 else w) = some l)
    (hu : cutF (pattern l) v (o == 37) (if pre [o] w then (List.range (v.length + 1)).reverse else List.range (v.length + 1)) = some u) :
    run (f + 3) ⟨vars, [], 0, l0, one⟩ (36 :: (r ++ rest)) false = run (f + 2) ⟨vars, [], 0, l0 ++ chars u false true, one⟩ rest false := by
  have hb : braced (f + 1) ⟨vars, [], 0, l0, one⟩ (86 :: o :: w) false = some ((⟨vars, [], 0, l0, one⟩ : Ex).result u false) :=
    braced_cut f _ 86 (o :: w) false 0 o w v l u (by decide) hno rfl ho hv (hi _ rfl rfl) hu
  have ht : (36 :: (r ++ rest)).take (r.length + 1) = 36 :: r := by simp
  have hd : dollar (f + 2) ⟨vars, [], 0, l0, one⟩ (36 :: (r ++ rest)) ((36 :: (r ++ rest)).take (r.length + 1)) false = some ((⟨vars, [], 0, l0, one⟩ : Ex).result u false, r.length + 1) := by
    rw [ht]
    have := dollar_braced (f + 1) ⟨vars, [], 0, l0, one⟩ (36 :: (r ++ rest)) (36 :: r) false _ (by rw [hr]; simp) (by
      rw [hr]
      have e : (List.take ((36 :: (123 :: 86 :: o :: w ++ [125])).length - 1) (36 :: (123 :: 86 :: o :: w ++ [125]))).drop 2 = 86 :: o :: w := by
        simp
      rw [e]; exact hb)
    simpa using this
  rw [run_dollar (f + 2) _ _ _ _ _ _ hl hp hd (by simp)]
  simp
  try rfl
/-- The value that the law asks about. -/
def valV (a b : Bytes) : Bytes := a ++ 47 :: b
theorem get_V (v : Bytes) (r : List Bytes) : get ((86 :: 61 :: v) :: r) [86] = some v := by
  simp [get, place, pre, List.findIdx?_cons]
theorem take_ends (a b : Bytes) (ha : ∀ c ∈ a, c ≠ 47) (hb : ∀ c ∈ b, c ≠ 47) (n : Nat) (hn : n ≤ (valV a b).length) : ((valV a b).take n).getLast? = some 47 ↔ n = a.length + 1 := by
  unfold valV at *
  rw [List.getLast?_take]
  constructor
  · intro h
    split at h
    · cases h
    · rename_i h0
      have hlt : n - 1 < (a ++ 47 :: b).length := by omega
      rw [List.getElem?_eq_getElem hlt] at h
      simp at h
      rw [List.getElem_append] at h
      split at h
      · exact absurd h (ha _ (List.getElem_mem _))
      · rename_i h1
        by_cases e : n - 1 = a.length
        · omega
        · rw [List.getElem_cons, dif_neg (by omega)] at h
          exact absurd h (hb _ (List.getElem_mem _))
  · rintro rfl
    simp
theorem drop_begins (a b : Bytes) (ha : ∀ c ∈ a, c ≠ 47) (hb : ∀ c ∈ b, c ≠ 47) (n : Nat) (hn : n ≤ (valV a b).length) : ((valV a b).drop n).head? = some 47 ↔ n = a.length := by
  unfold valV at *
  rw [List.head?_drop]
  constructor
  · intro h
    by_cases hlt : n < (a ++ 47 :: b).length
    · rw [List.getElem?_eq_getElem hlt] at h
      simp only [Option.some.injEq] at h
      rw [List.getElem_append] at h
      split at h
      · exact absurd h (ha _ (List.getElem_mem _))
      · by_cases e : n = a.length
        · exact e
        · rw [List.getElem_cons, dif_neg (by omega)] at h
          exact absurd h (hb _ (List.getElem_mem _))
    · rw [List.getElem?_eq_none (by omega)] at h; cases h
  · rintro rfl
    simp
theorem glob_fuel (p s : Bytes) (hp : 1 ≤ p.length) : 2 * s.length + 2 < (s.length + 1) * (p.length + s.length + 2) ∧ s.length + 3 ≤ (s.length + 1) * (p.length + s.length + 2) := by
  have h1 : s.length + 1 ≥ 1 := by omega
  have h2 : (s.length + 1) * 3 ≤ (s.length + 1) * (p.length + s.length + 2) := Nat.mul_le_mul_left _ (by omega)
  have h3 : 1 * (p.length + s.length + 2) ≤ (s.length + 1) * (p.length + s.length + 2) := Nat.mul_le_mul_right _ h1
  omega
theorem valV_len (a b : Bytes) : (valV a b).length = a.length + b.length + 1 := by simp [valV]; omega
theorem cut_suffix (a b : Bytes) (ha : ∀ c ∈ a, c ≠ 47) (hb : ∀ c ∈ b, c ≠ 47) (l : List Nat) (hl : ∀ n, n ∈ l ↔ n ≤ (valV a b).length) : cutF [47, 42] (valV a b) true l = some a := by
  have hlen := valV_len a b
  rw [cutF_first _ _ _ ((valV a b).length - a.length) l ((hl _).2 (by omega))]
  · simp only [if_true]
    rw [hlen]
    rw [show a.length + b.length + 1 - (a.length + b.length + 1 - a.length) = a.length by omega]
    unfold valV
    rw [List.take_left]
  · intro n hn
    have hn := (hl n).1 hn
    simp only [if_true]
    unfold glob
    have hf := glob_fuel [47, 42] ((valV a b).drop ((valV a b).length - n)) (by decide)
    rw [glob_slash _ _ (by have := hf.1; have := hf.2; simp only [List.length_cons, List.length_nil] at *; generalize (valV a b).drop ((valV a b).length - n) = s at *; have : (s.length + 1) * 4 ≤ (s.length + 1) * (0 + 1 + 1 + s.length + 2) := Nat.mul_le_mul_left _ (by omega); omega)]
    congr 1
    rw [decide_eq_decide, drop_begins a b ha hb _ (by omega)]
    omega
theorem cut_prefix (a b : Bytes) (ha : ∀ c ∈ a, c ≠ 47) (hb : ∀ c ∈ b, c ≠ 47) (l : List Nat) (hl : ∀ n, n ∈ l ↔ n ≤ (valV a b).length) : cutF [42, 47] (valV a b) false l = some b := by
  have hlen := valV_len a b
  rw [cutF_first _ _ _ (a.length + 1) l ((hl _).2 (by omega))]
  · simp [valV]
  · intro n hn
    have hn := (hl n).1 hn
    simp only [Bool.false_eq_true, if_false]
    unfold glob
    have hf := glob_fuel [42, 47] ((valV a b).take n) (by decide)
    rw [glob_ends _ _ (by have := hf.1; omega)]
    congr 1
    rw [decide_eq_decide, take_ends a b ha hb _ hn]
theorem lit_len (t : Bytes) : (lit t).length = 2 * t.length := by
  induction t with
  | nil => rfl
  | cons c r ih => simp [lit] at ih ⊢; omega
theorem glob_lit' (t s : Bytes) : glob (lit t) s = some (decide (s = t)) := by
  unfold glob
  have : t.length < (s.length + 1) * ((lit t).length + s.length + 2) := by
    rw [lit_len]
    have h3 : 1 * (2 * t.length + s.length + 2) ≤ (s.length + 1) * (2 * t.length + s.length + 2) := Nat.mul_le_mul_right _ (by omega)
    omega
  exact glob_lit t _ s this
theorem cut_same (a b : Bytes) (l : List Nat) (hl : ∀ n, n ∈ l ↔ n ≤ (valV a b).length) : cutF (lit (47 :: b)) (valV a b) true l = some a := by
  have hlen := valV_len a b
  rw [cutF_first _ _ _ ((valV a b).length - a.length) l ((hl _).2 (by omega))]
  · simp only [if_true]
    rw [hlen]
    rw [show a.length + b.length + 1 - (a.length + b.length + 1 - a.length) = a.length by omega]
    unfold valV
    rw [List.take_left]
  · intro n hn
    have hn := (hl n).1 hn
    simp only [if_true]
    rw [glob_lit']
    congr 1
    rw [decide_eq_decide]
    constructor
    · intro h
      have := congrArg List.length h
      simp only [List.length_drop, List.length_cons] at this
      omega
    · rintro rfl
      rw [hlen, show a.length + b.length + 1 - (a.length + b.length + 1 - a.length) = a.length by omega]
      simp [valV]
theorem cut_not (a b : Bytes) (ha : ∀ c ∈ a, c ≠ 42) (hb : ∀ c ∈ b, c ≠ 42) (l : List Nat) : cutF (lit [47, 42]) (valV a b) true l = some (valV a b) := by
  apply cutF_none
  intro n _
  simp only [if_true]
  rw [glob_lit']
  congr 1
  rw [decide_eq_false_iff_not]
  intro h
  have h1 : (42 : UInt8) ∈ (valV a b).drop ((valV a b).length - n) := by rw [h]; simp
  have h2 := List.mem_of_mem_drop h1
  unfold valV at h2
  rcases List.mem_append.1 h2 with h2 | h2
  · exact ha _ h2 rfl
  · rcases List.mem_cons.1 h2 with h2 | h2
    · cases h2
    · exact hb _ h2 rfl
theorem cut_all (v : Bytes) (back : Bool) : cutF [42] v back (List.range (v.length + 1)).reverse = some [] := by
  rw [List.range_succ, List.reverse_append]
  simp only [List.reverse_singleton, List.singleton_append]
  unfold cutF
  have : ∀ s, glob [42] s = some true := fun s => by
    unfold glob
    have hf := glob_fuel [42] s (by decide)
    exact glob_star s _ _ _ (by have := hf.2; have := hf.1; omega)
  rw [this]
  cases back <;> simp
theorem joined_chars (s : Bytes) (q t : Bool) : joined (chars s q t) = s := by
  induction s with
  | nil => rfl
  | cons c r ih => simp [joined, chars, Un.told] at ih ⊢; exact ih
theorem range_mem (v : Bytes) (n : Nat) : n ∈ List.range (v.length + 1) ↔ n ≤ v.length := by rw [List.mem_range]; omega

theorem small_le {n : Nat} (h : n ≤ 1000) : n ≤ lim := by unfold lim; omega
theorem inner_slash (f : Nat) (x : Ex) : inner (f + 9) x [47, 42] = some (chars [47, 42] false false) :=
  inner_of (f + 8) x _ ⟨x.vars, x.args, x.status, chars [47, 42] false false, true⟩ rfl (small_le (n := 2) (by decide))
theorem inner_prefix (f : Nat) (x : Ex) : inner (f + 9) x [42, 47] = some (chars [42, 47] false false) :=
  inner_of (f + 8) x _ ⟨x.vars, x.args, x.status, chars [42, 47] false false, true⟩ rfl (small_le (n := 2) (by decide))
theorem inner_star (f : Nat) (x : Ex) : inner (f + 9) x [42] = some (chars [42] false false) :=
  inner_of (f + 8) x _ ⟨x.vars, x.args, x.status, chars [42] false false, true⟩ rfl (small_le (n := 1) (by decide))
theorem inner_quoted (f : Nat) (x : Ex) : inner (f + 9) x [39, 47, 42, 39] = some (.mark :: chars [47, 42] true false) :=
  inner_of (f + 8) x _ ⟨x.vars, x.args, x.status, .mark :: chars [47, 42] true false, true⟩ rfl (small_le (n := 3) (by decide))
theorem pattern_quoted (s : Bytes) : pattern (chars s true false) = lit s := by
  induction s with
  | nil => rfl
  | cons c r ih => simp [pattern, chars, lit, patternOf] at ih ⊢; exact ih
theorem pattern_app (k l : List Un) : pattern (k ++ l) = pattern k ++ pattern l := by simp [pattern]

theorem digits_short : ∀ c : Nat, c < 256 → (digits c).length ≤ 3 := by decide +kernel
theorem told_of {x : Option Ex} {y : Ex} {u : Bytes} (h : x = some y) (hl : y.l.length ≤ 1000) (hu : joined y.l = u) : (x.bind fun x => if lim < x.l.length then none else some (joined x.l)) = some u := by
  subst h hu
  simp only [Option.bind_some]
  rw [if_neg (Nat.not_lt.2 (small_le hl))]

section
variable (a b : Bytes) (ha : ∀ c ∈ a, c ≠ 47) (hb : ∀ c ∈ b, c ≠ 47)
include ha hb
theorem value_1 (hl : a.length + b.length ≤ 200) : valueOf [86 :: 61 :: valV a b] [] 0 [36, 123, 86, 37, 47, 42, 125] = some a := by
  have h := run_cut 33 [86 :: 61 :: valV a b] [] true [123, 86, 37, 47, 42, 125] [] (small_le (by decide)) 37 [47, 42] (valV a b) _ _ rfl rfl (.inl rfl) rfl (get_V _ _)
    (fun x _ _ => inner_slash 24 x) (cut_suffix a b ha hb _ (range_mem _))
  refine told_of (x := run 36 ⟨_, _, _, _, _⟩ _ _) (by rw [show ([36, 123, 86, 37, 47, 42, 125] : Bytes) = 36 :: ([123, 86, 37, 47, 42, 125] ++ []) by rfl, h, run_nil]) ?_ ?_
  · simp [chars]; omega
  · simp [joined_chars]
theorem value_2 (hl : a.length + b.length ≤ 200) : valueOf [86 :: 61 :: valV a b] [] 0 [36, 123, 86, 35, 42, 47, 125] = some b := by
  have h := run_cut 33 [86 :: 61 :: valV a b] [] true [123, 86, 35, 42, 47, 125] [] (small_le (by decide)) 35 [42, 47] (valV a b) _ _ rfl rfl (.inr rfl) rfl (get_V _ _)
    (fun x _ _ => inner_prefix 24 x) (cut_prefix a b ha hb _ (range_mem _))
  refine told_of (x := run 36 ⟨_, _, _, _, _⟩ _ _) (by rw [show ([36, 123, 86, 35, 42, 47, 125] : Bytes) = 36 :: ([123, 86, 35, 42, 47, 125] ++ []) by rfl, h, run_nil]) ?_ ?_
  · simp [chars]; omega
  · simp [joined_chars]
theorem value_4 (hl : a.length + b.length ≤ 200) : valueOf [86 :: 61 :: valV a b] [] 0 [36, 123, 86, 35, 35, 42, 47, 125, 36, 123, 86, 37, 37, 47, 42, 125, 36, 123, 86, 37, 37, 42, 125, 36, 123, 86, 35, 35, 42, 125] = some (b ++ a) := by
  have hrev : ∀ n, n ∈ (List.range ((valV a b).length + 1)).reverse ↔ n ≤ (valV a b).length := fun n => by rw [List.mem_reverse]; exact range_mem _ n
  have h1 := run_cut 125 [86 :: 61 :: valV a b] [] true [123, 86, 35, 35, 42, 47, 125] [36, 123, 86, 37, 37, 47, 42, 125, 36, 123, 86, 37, 37, 42, 125, 36, 123, 86, 35, 35, 42, 125] (small_le (by decide)) 35 [35, 42, 47] (valV a b) _ _ rfl rfl (.inr rfl) rfl (get_V _ _)
    (fun x _ _ => inner_prefix 116 x) (cut_prefix a b ha hb _ hrev)
  have h2 := run_cut 124 [86 :: 61 :: valV a b] (chars b false true) true [123, 86, 37, 37, 47, 42, 125] [36, 123, 86, 37, 37, 42, 125, 36, 123, 86, 35, 35, 42, 125] (small_le (by simp [chars]; omega)) 37 [37, 47, 42] (valV a b) _ _ rfl rfl (.inl rfl) rfl (get_V _ _)
    (fun x _ _ => inner_slash 115 x) (cut_suffix a b ha hb _ hrev)
  have h3 := run_cut 123 [86 :: 61 :: valV a b] (chars b false true ++ chars a false true) true [123, 86, 37, 37, 42, 125] [36, 123, 86, 35, 35, 42, 125] (small_le (by simp [chars]; omega)) 37 [37, 42] (valV a b) _ _ rfl rfl (.inl rfl) rfl (get_V _ _)
    (fun x _ _ => inner_star 114 x) (cut_all _ true)
  have h4 := run_cut 122 [86 :: 61 :: valV a b] (chars b false true ++ chars a false true ++ chars [] false true) true [123, 86, 35, 35, 42, 125] [] (small_le (by simp [chars]; omega)) 35 [35, 42] (valV a b) _ _ rfl rfl (.inr rfl) rfl (get_V _ _)
    (fun x _ _ => inner_star 113 x) (cut_all _ false)
  refine told_of (x := run 128 ⟨_, _, _, _, _⟩ _ _) (by
    rw [show ([36, 123, 86, 35, 35, 42, 47, 125, 36, 123, 86, 37, 37, 47, 42, 125, 36, 123, 86, 37, 37, 42, 125, 36, 123, 86, 35, 35, 42, 125] : Bytes) = 36 :: ([123, 86, 35, 35, 42, 47, 125] ++ [36, 123, 86, 37, 37, 47, 42, 125, 36, 123, 86, 37, 37, 42, 125, 36, 123, 86, 35, 35, 42, 125]) by rfl, h1]
    rw [show ([36, 123, 86, 37, 37, 47, 42, 125, 36, 123, 86, 37, 37, 42, 125, 36, 123, 86, 35, 35, 42, 125] : Bytes) = 36 :: ([123, 86, 37, 37, 47, 42, 125] ++ [36, 123, 86, 37, 37, 42, 125, 36, 123, 86, 35, 35, 42, 125]) by rfl]
    rw [List.nil_append, h2]
    rw [show ([36, 123, 86, 37, 37, 42, 125, 36, 123, 86, 35, 35, 42, 125] : Bytes) = 36 :: ([123, 86, 37, 37, 42, 125] ++ [36, 123, 86, 35, 35, 42, 125]) by rfl, h3]
    rw [show ([36, 123, 86, 35, 35, 42, 125] : Bytes) = 36 :: ([123, 86, 35, 35, 42, 125] ++ []) by rfl, h4, run_nil]) ?_ ?_
  · simp [chars]; omega
  simp [chars]
  have := joined_chars (b ++ a) false true
  simpa [chars] using this
omit ha hb
theorem value_3 (hl : a.length + b.length ≤ 200) (ha2 : ∀ c ∈ a, c ≠ 42) (hb2 : ∀ c ∈ b, c ≠ 42) : valueOf [86 :: 61 :: valV a b] [] 0 [36, 123, 86, 37, 39, 47, 42, 39, 125] = some (valV a b) := by
  have h := run_cut 41 [86 :: 61 :: valV a b] [] true [123, 86, 37, 39, 47, 42, 39, 125] [] (small_le (by decide)) 37 [39, 47, 42, 39] (valV a b) _ _ rfl rfl (.inl rfl) rfl (get_V _ _)
    (fun x _ _ => inner_quoted 32 x) (cut_not a b ha2 hb2 _)
  refine told_of (x := run 44 ⟨_, _, _, _, _⟩ _ _) (by rw [show ([36, 123, 86, 37, 39, 47, 42, 39, 125] : Bytes) = 36 :: ([123, 86, 37, 39, 47, 42, 39, 125] ++ []) by rfl, h, run_nil]) ?_ ?_
  · simp [chars, valV_len]; omega
  · simp [joined_chars]
theorem value_5 (hl : a.length + b.length ≤ 200) : valueOf [86 :: 61 :: valV a b] [] 0 [36, 123, 35, 86, 125] = some (digits (a.length + b.length + 1)) := by
  have hv : (valV a b).length < 256 := by rw [valV_len]; omega
  have hd : dollar 27 ⟨[86 :: 61 :: valV a b], [], 0, [], true⟩ [36, 123, 35, 86, 125] [36, 123, 35, 86, 125] false = some ((⟨[86 :: 61 :: valV a b], [], 0, [], true⟩ : Ex).result (digits (valV a b).length) false, 5) := by
    refine dollar_braced 26 _ _ _ _ _ (by decide) ?_
    show braced 26 _ [35, 86] false = _
    rw [braced.eq_def]
    simp only
    rw [if_pos trivial, if_pos (by decide)]
    have : (⟨[86 :: 61 :: valV a b], [], 0, [], true⟩ : Ex).value [86] = some (valV a b, true) := by
      unfold Ex.value
      rw [if_pos (by decide), get_V]
    rw [this]
    simp only
    rw [if_pos hv]
  have hdl : (digits (valV a b).length).length ≤ 3 := digits_short _ hv
  refine told_of (x := run 28 ⟨_, _, _, _, _⟩ _ _) (y := (⟨[86 :: 61 :: valV a b], [], 0, [], true⟩ : Ex).result (digits (valV a b).length) false) (by
    rw [run_dollar 27 ⟨[86 :: 61 :: valV a b], [], 0, [], true⟩ [123, 35, 86, 125] false 5 _ 5 (small_le (n := 0) (by decide)) rfl hd (by decide)]
    simp only [List.drop_succ_cons, List.drop_nil, run_nil]) ?_ ?_
  · simp [Ex.result, Ex.put, Ex.add, chars]; omega
  simp [joined_chars, Ex.result, Ex.put, Ex.add, valV_len]
theorem value_6 (hl : a.length + b.length ≤ 200) : valueOf [86 :: 61 :: valV a b, [87, 61], 88 :: 61 :: b] [] 0 [36, 123, 86, 37, 34, 36, 87, 47, 36, 88, 34, 125] = some a := by
  have hi : ∀ x : Ex, x.vars = [86 :: 61 :: valV a b, [87, 61], 88 :: 61 :: b] → x.args = [] → inner 53 x [34, 36, 87, 47, 36, 88, 34] = some (.mark :: chars (47 :: b) true false) := by
    intro x hx hx2
    refine inner_of 52 x _ ⟨x.vars, x.args, x.status, .mark :: chars (47 :: b) true false, true⟩ ?_ (small_le (by simp [chars]; omega))
    rw [hx, hx2]
    rfl
  have hp : pattern (.mark :: chars (47 :: b) true false) = lit (47 :: b) := pattern_quoted _
  have h := run_cut 53 [86 :: 61 :: valV a b, [87, 61], 88 :: 61 :: b] [] true [123, 86, 37, 34, 36, 87, 47, 36, 88, 34, 125] [] (small_le (by decide)) 37 [34, 36, 87, 47, 36, 88, 34] (valV a b) _ _ rfl rfl (.inl rfl) rfl (get_V _ _)
    hi (by rw [hp]; exact cut_same a b _ (range_mem _))
  refine told_of (x := run 56 ⟨_, _, _, _, _⟩ _ _) (by rw [show ([36, 123, 86, 37, 34, 36, 87, 47, 36, 88, 34, 125] : Bytes) = 36 :: ([123, 86, 37, 34, 36, 87, 47, 36, 88, 34, 125] ++ []) by rfl, h, run_nil]) ?_ ?_
  · simp [chars]; omega
  · simp [joined_chars]
end
end Go.Proofs.YtfoehfehnmhhmaaGreatDoor.Wd
