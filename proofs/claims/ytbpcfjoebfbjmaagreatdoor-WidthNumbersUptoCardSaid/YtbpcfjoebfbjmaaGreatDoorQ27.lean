/-
  Texts of this seat put together: NlLaw, NlAs, Lens, V26, V27, V28a, V28, V29a.
-/
import Derived.Test.YtbpcfjoebfbjmaaGreatDoorQ5
import Derived.Test.YtbpcfjoebfbjmaaGreatDoorQ22
import Derived.Test.YtbpcfjoebfbjmaaGreatDoorQ17
import Derived.Test.YtbpcfjoebfbjmaaGreatDoorQ12
import Derived.Test.YtbpcfjoebfbjmaaGreatDoorQ26

/-
  The plain law of nl. No program in sight. Condition: the numbers keep within nine digits.
-/
namespace Go.Proofs.YtbpcfjoebfbjmaaGreatDoor.Wi
open Go

def digit (c : UInt8) : Bool := 48 ≤ c && c ≤ 57
def value (s : Bytes) : Nat := s.foldl (fun n c => n * 10 + (c.toNat - 48)) 0

/-- All lines of some bytes. -/
def linesF : Nat → Bytes → List Bytes
  | 0, _ => []
  | k + 1, inp => if inp = [] then [] else (lineOf inp).1 :: linesF k (lineOf inp).2.2
def lines (inp : Bytes) : List Bytes := linesF inp.length inp

theorem linesF_more : ∀ (k m : Nat) (inp : Bytes), inp.length ≤ k → inp.length ≤ m → linesF k inp = linesF m inp := by
  intro k
  induction k with
  | zero =>
    intro m inp hk _
    have : inp = [] := List.eq_nil_of_length_eq_zero (by omega)
    subst this
    cases m <;> simp [linesF]
  | succ k ih =>
    intro m inp hk hm
    by_cases h0 : inp = []
    · subst h0; cases m <;> simp [linesF]
    have hr := lineOf_rest inp h0
    cases m with
    | zero => exact absurd (List.eq_nil_of_length_eq_zero (by omega)) h0
    | succ m =>
      rw [linesF, linesF, if_neg h0, if_neg h0, ih m _ (by omega) (by omega)]
theorem lines_cons (inp : Bytes) (h : inp ≠ []) : lines inp = (lineOf inp).1 :: lines (lineOf inp).2.2 := by
  unfold lines
  have hr := lineOf_rest inp h
  have hl : 0 < inp.length := List.length_pos_iff.2 h
  obtain ⟨n, hn⟩ : ∃ n, inp.length = n + 1 := ⟨inp.length - 1, by omega⟩
  rw [hn, linesF, if_neg h, linesF_more n _ _ (by omega) (Nat.le_refl _)]

theorem lineOf_app : ∀ (l t : Bytes), (∀ c ∈ l, c ≠ 10) → lineOf (l ++ 10 :: t) = (l, true, t) := by
  intro l
  induction l with
  | nil => intro t _; rfl
  | cons c r ih =>
    intro t h
    rw [List.cons_append, lineOf, if_neg (h c (by simp)), ih t (fun x hx => h x (by simp [hx]))]
theorem lineOf_all : ∀ (l : Bytes), (∀ c ∈ l, c ≠ 10) → lineOf l = (l, false, []) := by
  intro l
  induction l with
  | nil => intro _; rfl
  | cons c r ih =>
    intro h
    rw [lineOf, if_neg (h c (by simp)), ih (fun x hx => h x (by simp [hx]))]

/-! ## Digits -/
theorem digitsF_digit : ∀ (f n : Nat), (digitsF f n).all digit = true := by
  intro f
  induction f with
  | zero => intro n; rfl
  | succ f ih =>
    intro n
    rw [digitsF, List.all_append]
    have hd : digit (UInt8.ofNat (48 + n % 10)) = true := by
      have : n % 10 < 10 := Nat.mod_lt _ (by omega)
      generalize n % 10 = d at *
      have : ∀ d : Fin 10, digit (UInt8.ofNat (48 + d.val)) = true := by decide
      exact this ⟨d, by omega⟩
    rw [List.all_cons, hd, List.all_nil, Bool.and_true, Bool.and_true]
    split
    · rfl
    · exact ih _
theorem value_app (a : Bytes) (c : UInt8) : value (a ++ [c]) = value a * 10 + (c.toNat - 48) := by
  simp [value, List.foldl_append]
theorem value_zeros (a : Bytes) : ∀ m, value (List.replicate m 48 ++ a) = value a := by
  intro m
  induction m with
  | zero => simp
  | succ m ih => rw [List.replicate_succ, List.cons_append]; simpa [value] using ih
theorem digitsF_value : ∀ (f n : Nat), n < 10 ^ f → value (digitsF f n) = n := by
  intro f
  induction f with
  | zero => intro n h; have : n = 0 := by simpa using h
            subst this; rfl
  | succ f ih =>
    intro n h
    rw [digitsF, value_app]
    have hd : (UInt8.ofNat (48 + n % 10)).toNat = 48 + n % 10 := by
      rw [UInt8.toNat_ofNat']
      have : n % 10 < 10 := Nat.mod_lt _ (by omega)
      omega
    rw [hd]
    rw [Nat.pow_succ] at h
    split
    · rename_i h0; rw [show value [] = 0 from rfl]; omega
    · rw [ih (n / 10) (by omega)]; omega
theorem digitsF_len : ∀ (f n m : Nat), n < 10 ^ m → 1 ≤ m → (digitsF f n).length ≤ m := by
  intro f
  induction f with
  | zero => intro n m _ _; simp [digitsF]
  | succ f ih =>
    intro n m h h1
    rw [digitsF, List.length_append]
    split
    · simp; omega
    · rename_i h0
      obtain ⟨m, rfl⟩ : ∃ k, m = k + 1 := ⟨m - 1, by omega⟩
      rw [Nat.pow_succ] at h
      have hm : 1 ≤ m := by
        rcases Nat.eq_zero_or_pos m with rfl | h; · simp at h; omega
        · exact h
      have := ih (n / 10) m (by omega) hm
      simp; omega
theorem digits_ne (n : Nat) : digits n ≠ [] := by
  unfold digits
  rw [show (20 : Nat) = 19 + 1 from rfl, digitsF]
  simp

/-- What stands ahead of a line: nine digits that tell its number. -/
theorem place_of (n : Nat) (h : n < 1000000000) : (List.replicate (9 - (digits n).length) 48 ++ digits n).length = 9 ∧ (List.replicate (9 - (digits n).length) 48 ++ digits n).all digit = true ∧ value (List.replicate (9 - (digits n).length) 48 ++ digits n) = n := by
  have hl : (digits n).length ≤ 9 := digitsF_len 20 n 9 h (by omega)
  refine ⟨?_, ?_, ?_⟩
  · rw [List.length_append, List.length_replicate]; omega
  · rw [List.all_append, digits, digitsF_digit, Bool.and_true]
    rw [List.all_eq_true]
    intro x hx
    rw [List.eq_of_mem_replicate hx]
    rfl
  · rw [value_zeros]; exact digitsF_value 20 n (by omega)

/-- The law's own check of a line. -/
def nlOk (n : Nat) (y x : Bytes) : Prop := 9 ≤ y.length ∧ y.drop 9 = x ∧ (y.take 9).all digit = true ∧ value (y.take 9) = n

theorem digit_ne {c : UInt8} (h : digit c = true) : c ≠ 10 := by
  intro e; subst e; exact absurd h (by decide)

/-- THE LAW of nl: as many lines, each behind its number. -/
theorem numbers_law (by_ : Nat) (most : Nat) : ∀ (k v : Nat) (inp : Bytes), inp.length ≤ k → v + inp.length * by_ < 1000000000 → (runsF (nlZ by_) most k v inp).2 = true →
    (lines (runsF (nlZ by_) most k v inp).1).length = (lines inp).length ∧ ∀ i, i < (lines inp).length → nlOk (v + i * by_) ((lines (runsF (nlZ by_) most k v inp).1).getD i []) ((lines inp).getD i []) := by
  intro k
  induction k with
  | zero =>
    intro v inp hk _ _
    have : inp = [] := List.eq_nil_of_length_eq_zero (by omega)
    subst this
    exact ⟨rfl, fun i hi => absurd hi (Nat.not_lt_zero _)⟩
  | succ k ih =>
    intro v inp hk hv hok
    rw [runsF] at hok ⊢
    by_cases h0 : inp = []
    · subst h0; exact ⟨rfl, fun i hi => absurd hi (Nat.not_lt_zero _)⟩
    rw [if_neg h0] at hok ⊢
    simp only at hok ⊢
    by_cases hm : most < (lineOf inp).1.length
    · rw [if_pos hm] at hok; cases hok
    rw [if_neg hm] at hok ⊢
    simp only [nlZ] at hok ⊢
    obtain ⟨h1, h2, h3⟩ := lineOf_spec inp
    have hr := lineOf_rest inp h0
    have hlen : 0 < inp.length := List.length_pos_iff.2 h0
    have hmul : (lineOf inp).2.2.length * by_ + by_ ≤ inp.length * by_ := by
      have := Nat.mul_le_mul_right by_ (show (lineOf inp).2.2.length + 1 ≤ inp.length by omega)
      rwa [Nat.add_mul, Nat.one_mul] at this
    have ihh := ih (v + by_) (lineOf inp).2.2 (by omega) (by omega) hok
    obtain ⟨hp1, hp2, hp3⟩ := place_of v (by omega)
    generalize hP : List.replicate (9 - (digits v).length) 48 ++ digits v = P at *
    have hP10 : ∀ c ∈ P ++ (lineOf inp).1, c ≠ 10 := by
      intro c hc
      rcases List.mem_append.1 hc with hc | hc
      · exact digit_ne (List.all_eq_true.1 hp2 c hc)
      · exact h2 c hc
    have hone : nlOk v (P ++ (lineOf inp).1) (lineOf inp).1 := by
      refine ⟨by rw [List.length_append]; omega, ?_, ?_, ?_⟩
      · rw [← hp1, List.drop_left]
      · rw [← hp1, List.take_left]; exact hp2
      · rw [← hp1, List.take_left]; exact hp3
    change (runsF (nlZ by_) most k (v + by_) (lineOf inp).2.2).2 = true at hok
    have hfold : runsF (fun at_ l => (at_ + by_, List.replicate (9 - (digits at_).length) 48 ++ digits at_ ++ l)) most k (v + by_) (lineOf inp).2.2 = runsF (nlZ by_) most k (v + by_) (lineOf inp).2.2 := rfl
    have hall : lines ((P ++ (lineOf inp).1) ++ feedOf (lineOf inp).2.1 ++ (runsF (nlZ by_) most k (v + by_) (lineOf inp).2.2).1) = (P ++ (lineOf inp).1) :: lines (runsF (nlZ by_) most k (v + by_) (lineOf inp).2.2).1 := by
      have hPne : P ≠ [] := by intro e; rw [e] at hp1; simp at hp1
      cases hf : (lineOf inp).2.1 with
      | true =>
        rw [show feedOf true = [10] from rfl, List.append_assoc, List.singleton_append]
        rw [lines_cons _ (by simp), lineOf_app _ _ hP10]
      | false =>
        have := h3 hf
        rw [this]
        have hz : (runsF (nlZ by_) most k (v + by_) ([] : Bytes)).1 = [] := by cases k <;> simp [runsF]
        rw [hz, show feedOf false = [] from rfl, List.append_nil, List.append_nil]
        rw [lines_cons _ (by simp [hPne]), lineOf_all _ hP10]
    rw [hall, lines_cons inp h0]
    refine ⟨by simpa using ihh.1, fun i hi => ?_⟩
    cases i with
    | zero => simpa using hone
    | succ i =>
      have := ihh.2 i (by simpa using hi)
      rw [show v + by_ + i * by_ = v + (i + 1) * by_ by rw [Nat.add_mul]; omega] at this
      simpa using this

end Go.Proofs.YtbpcfjoebfbjmaaGreatDoor.Wi

/-
  What form.line tells, as the plain law of nl has it; numbers told and read again. No program's walk. Condition: numbers of few digits.
-/
namespace Go.Proofs.YtbpcfjoebfbjmaaGreatDoor
open Go Go.RowKit Go.Shelf

theorem decDigits_digitsF : ∀ (f n : Nat), n < 10 ^ (f + 1) → Lib.decDigits n = Wi.digitsF (f + 1) n := by
  intro f
  induction f with
  | zero =>
    intro n h
    rw [Lib.decDigits, dif_pos (by simpa using h), Wi.digitsF, if_pos (by omega)]
    have : n % 10 = n := by omega
    rw [this]; rfl
  | succ f ih =>
    intro n h
    rw [Lib.decDigits, Wi.digitsF]
    by_cases h10 : n < 10
    · rw [dif_pos h10, if_pos (by omega)]
      have : n % 10 = n := by omega
      rw [this]; rfl
    · rw [dif_neg h10, if_neg (by omega), ih (n / 10) (by rw [Nat.pow_succ] at h; omega)]
theorem itoa_digits (n : Nat) (h : n < 100000000000000000000) : Lib.itoa (n : Int) = Wi.digits n := by
  unfold Lib.itoa
  rw [if_neg (by omega), Int.toNat_natCast]
  exact decDigits_digitsF 19 n (by simpa using h)
theorem number_itoa (n : Nat) (most : Int) (h : (n : Int) ≤ most) (h2 : n < 100000000000000000000) : Ord.number (Lib.itoa (n : Int)) most = some (n : Int) := by
  rw [itoa_digits n h2]
  have hv : Ord.value (Wi.digits n) = n := Wi.digitsF_value 20 n (by simpa using h2)
  have hd : (Wi.digits n).all Ord.digit = true := Wi.digitsF_digit 20 n
  rw [Ord.number_some_of _ most (Wi.digits_ne n) hd (by rw [hv]; exact h), hv]

/-- nl of all lines, in a place of nine, noughts ahead. -/
theorem nl_tie (by_ most : Nat) : ∀ (k v : Nat) (inp : Bts), v + k * by_ < 1000000000 → Wi.runsF (nlLine false true [] 9 (by_ : Int)) most k (v : Int) inp = Wi.runsF (Wi.nlZ by_) most k v inp := by
  intro k
  induction k with
  | zero => intro v inp _; rfl
  | succ k ih =>
    intro v inp h
    rw [Nat.succ_mul] at h
    rw [Wi.runsF, Wi.runsF]
    by_cases h0 : inp = []
    · rw [if_pos h0, if_pos h0]
    rw [if_neg h0, if_neg h0]
    simp only
    by_cases hm : most < (Wi.lineOf inp).1.length
    · rw [if_pos hm, if_pos hm]
    rw [if_neg hm, if_neg hm]
    have e1 : wrap64 ((v : Int) + (by_ : Int)) = ((v + by_ : Nat) : Int) := by rw [w64_in] <;> omega
    have e2 : nlLine false true [] 9 (by_ : Int) (v : Int) (Wi.lineOf inp).1 = (((v + by_ : Nat) : Int), (Wi.nlZ by_ v (Wi.lineOf inp).1).2) := by
      unfold nlLine Wi.nlZ
      rw [if_neg (by simp), e1, itoa_digits v (by omega)]
      simp
    rw [e2]
    have := ih (v + by_) (Wi.lineOf inp).2.2 (by omega)
    simp only [Wi.nlZ] at this ⊢
    rw [this]

end Go.Proofs.YtbpcfjoebfbjmaaGreatDoor

/-
  How much comes out of fold, expand, unexpand and nl at most. No program in sight. Conditions: widths and stops of at least one.
-/
namespace Go.Proofs.YtbpcfjoebfbjmaaGreatDoor.Wi
open Go

theorem runsF_len {σ : Type} (f : σ → Bytes → σ × Bytes) (most C D : Nat) (hf : ∀ s l, (f s l).2.length ≤ C * l.length + D) : ∀ (k : Nat) (s : σ) (inp : Bytes), (runsF f most k s inp).1.length ≤ (C + D + 1) * inp.length := by
  intro k
  induction k with
  | zero => intro s inp; simp [runsF]
  | succ k ih =>
    intro s inp
    rw [runsF]
    by_cases h0 : inp = []
    · rw [if_pos h0]; simp
    rw [if_neg h0]
    simp only
    split
    · simp
    obtain ⟨h1, -, h3⟩ := lineOf_spec inp
    have hr := lineOf_rest inp h0
    have h4 := ih (f s (lineOf inp).1).1 (lineOf inp).2.2
    have h5 := hf s (lineOf inp).1
    have hl : inp.length = (lineOf inp).1.length + (feedOf (lineOf inp).2.1).length + (lineOf inp).2.2.length := by
      conv => lhs; rw [h1]
      simp only [List.length_append]
    simp only [List.length_append]
    generalize (lineOf inp).1.length = a at *
    generalize hb : (feedOf (lineOf inp).2.1).length = b at *
    generalize (lineOf inp).2.2.length = c at *
    have hb1 : b ≤ 1 := by rw [← hb]; cases (lineOf inp).2.1 <;> simp [feedOf]
    rw [hl, Nat.mul_add]
    have e1 : (C + D + 1) * (a + b) = C * a + C * b + (D + 1) * (a + b) := by
      rw [Nat.add_assoc C D 1, Nat.add_mul, Nat.mul_add]
    have e2 : (D + 1) * 1 ≤ (D + 1) * (a + b) := Nat.mul_le_mul_left _ (by omega)
    omega
theorem runs_len {σ : Type} (f : σ → Bytes → σ × Bytes) (most C D : Nat) (hf : ∀ s l, (f s l).2.length ≤ C * l.length + D) (s : σ) (inp : Bytes) : (runs f most s inp).1.length ≤ (C + D + 1) * inp.length := runsF_len f most C D hf _ s inp

theorem foldF_len (sp : Bool) (w : Nat) (hw : 1 ≤ w) : ∀ (k : Nat) (l : Bytes), (foldF sp w k l).length ≤ 2 * l.length := by
  intro k
  induction k with
  | zero => intro l; simp [foldF]
  | succ k ih =>
    intro l
    rw [foldF]
    by_cases h0 : l = []
    · rw [if_pos h0]; simp
    rw [if_neg h0]
    simp only
    have hl : 0 < l.length := List.length_pos_iff.2 h0
    split
    · omega
    · have hm : 1 ≤ (if sp = true then lastBlank (l.take (min l.length w)) else min l.length w) := by
        split
        · refine (lastBlank_le _ ?_).1
          intro e
          have := congrArg List.length e
          rw [List.length_take, List.length_nil] at this
          omega
        · omega
      generalize (if sp = true then lastBlank (l.take (min l.length w)) else min l.length w) = m at *
      have := ih (l.drop m)
      rw [List.length_drop] at this
      simp only [List.length_append, List.length_take, List.length_cons, List.length_nil]
      omega
theorem fold_len (sp : Bool) (w most : Nat) (hw : 1 ≤ w) (inp : Bytes) : (runs (still (fold sp w)) most () inp).1.length ≤ 3 * inp.length := runs_len _ most 2 0 (fun _ l => foldF_len sp w hw _ l) () inp

theorem nextOf_le (s col : Nat) : nextOf s col - col ≤ s := by unfold nextOf; omega
theorem expandF_len (s : Nat) (hs : 1 ≤ s) : ∀ (l : Bytes) (col : Nat), (expandF s col l).length ≤ s * l.length := by
  intro l
  induction l with
  | nil => intro col; simp [expandF]
  | cons c r ih =>
    intro col
    rw [expandF, List.length_append, List.length_cons, Nat.mul_succ]
    have h1 := ih (tabCol s col c)
    have h2 := nextOf_le s col
    have h3 : (if c = 9 then List.replicate (nextOf s col - col) 32 else [c]).length ≤ s := by
      split
      · rw [List.length_replicate]; exact h2
      · simpa using hs
    omega
theorem expand_len (s most : Nat) (hs : 1 ≤ s) (inp : Bytes) : (runs (still (expand s)) most () inp).1.length ≤ (s + 1) * inp.length := runs_len _ most s 0 (fun _ l => expandF_len s hs l 0) () inp
theorem unexpand_len (s most : Nat) (hs : 1 ≤ s) (inp : Bytes) : (runs (still (unexpand s)) most () inp).1.length ≤ 2 * inp.length := runs_len _ most 1 0 (fun _ l => by rw [Nat.one_mul]; exact (unexpand_spec s hs l.length 0 l (Nat.le_refl _)).2.1) () inp

/-- No backspace comes out that did not go in. -/
theorem runOf_no (s : Nat) : ∀ (k a b : Nat), ∀ c ∈ runOf s k a b, c ≠ 8 := by
  intro k
  induction k with
  | zero => intro a b c h; simp [runOf] at h
  | succ k ih =>
    intro a b c h
    rw [runOf] at h
    split at h
    · rw [List.eq_of_mem_replicate h]; decide
    · rcases List.mem_cons.1 h with rfl | h
      · decide
      · exact ih _ _ c h
theorem unexpandF_no (s : Nat) : ∀ (k col : Nat) (l : Bytes), (∀ c ∈ l, c ≠ 8) → ∀ c ∈ unexpandF s k col l, c ≠ 8 := by
  intro k
  induction k with
  | zero => intro col l _ c h; simp [unexpandF] at h
  | succ k ih =>
    intro col l hl c h
    cases l with
    | nil => simp [unexpandF] at h
    | cons d r =>
      rw [unexpandF] at h
      simp only at h
      split at h
      · rcases List.mem_append.1 h with h | h
        · unfold pieceOf at h
          split at h
          · exact hl c ((List.takeWhile_sublist _).subset h)
          · exact runOf_no s _ _ _ c h
        · exact ih _ _ (fun x hx => hl x ((List.dropWhile_sublist _).subset hx)) c h
      · rcases List.mem_cons.1 h with rfl | h
        · exact hl _ (by simp)
        · exact ih _ _ (fun x hx => hl x (by simp [hx])) c h
theorem runsF_no {σ : Type} (f : σ → Bytes → σ × Bytes) (most : Nat) (hf : ∀ s l, (∀ c ∈ l, c ≠ 8) → ∀ c ∈ (f s l).2, c ≠ 8) : ∀ (k : Nat) (s : σ) (inp : Bytes), (∀ c ∈ inp, c ≠ 8) → ∀ c ∈ (runsF f most k s inp).1, c ≠ 8 := by
  intro k
  induction k with
  | zero => intro s inp _ c h; simp [runsF] at h
  | succ k ih =>
    intro s inp hi c h
    rw [runsF] at h
    by_cases h0 : inp = []
    · rw [if_pos h0] at h; simp at h
    rw [if_neg h0] at h
    simp only at h
    split at h
    · simp at h
    obtain ⟨h1, -, -⟩ := lineOf_spec inp
    have hi2 : ∀ c ∈ (lineOf inp).1 ++ feedOf (lineOf inp).2.1 ++ (lineOf inp).2.2, c ≠ 8 := by rw [← h1]; exact hi
    simp only [List.mem_append] at h hi2
    rcases h with (h | h) | h
    · exact hf s _ (fun x hx => hi2 x (.inl (.inl hx))) c h
    · exact hi2 c (.inl (.inr h))
    · exact ih _ _ (fun x hx => hi2 x (.inr hx)) c h
theorem unexpand_no (s most : Nat) (inp : Bytes) (h : ∀ c ∈ inp, c ≠ 8) : ∀ c ∈ (runs (still (unexpand s)) most () inp).1, c ≠ 8 := runsF_no _ most (fun _ l hl => unexpandF_no s _ 0 l hl) _ () inp h

end Go.Proofs.YtbpcfjoebfbjmaaGreatDoor.Wi

/-
  The runs that the law WidthFolds makes. Conditions: widths from 1 to 1000; lengths.
-/
namespace Go.Proofs.YtbpcfjoebfbjmaaGreatDoor
open Go.RowKit Go.Shelf Go.Maps

def foldArgs (sp : Bool) (D : Bts) : List Bts := [[102, 111, 108, 100], [45, 98], [45, 119], D] ++ (if sp then [[45, 115]] else [])
theorem foldRun (sp : Bool) (n : Nat) (h1 : 1 ≤ n) (h2 : n ≤ 1000) (inp : Bts) (hin : inp.length ≤ 1048576) (buf line run : Nat) (g1 : 1 ≤ buf) (g2 : 1 ≤ line) (g3 : line ≤ run) (g4 : run ≤ 1099511627776) (g5 : buf ≤ 1099511627776) :
    RunQ (foldArgs sp (Lib.itoa (n : Int))) inp (Wi.runs (Wi.still (Wi.fold sp n)) line () inp) buf line run := by
  have hil := Lib.itoa_length_le (n : Int) (by omega) (by omega)
  have hno := number_itoa n 2147483647 (by omega) (by omega)
  obtain ⟨D, hD⟩ : ∃ D, Lib.itoa (n : Int) = D := ⟨_, rfl⟩
  rw [hD] at hil hno ⊢
  have hlen := Wi.fold_len sp n line h1 inp
  cases sp with
  | false =>
    refine runQ_fold [[45, 98], [45, 119], D] (by simp) (by simp) (by simp [totL]; omega) [(98, []), (119, D)] rfl (by simp) (by simp; omega) n ?_ h1 (by omega) inp (by omega) (fun c _ => .inl rfl) buf line run g1 g2 g3 g4 g5 (show (Wi.runs (Wi.still (Wi.fold false n)) line () inp).1.length ≤ 4294967296 by omega)
    unfold numOpt
    rw [show Op.last [(98, []), (119, D)] 119 = some D from rfl]
    simp only [hno]
    simp; omega
  | true =>
    refine runQ_fold [[45, 98], [45, 119], D, [45, 115]] (by simp) (by simp) (by simp [totL]; omega) [(98, []), (119, D), (115, [])] rfl (by simp) (by simp; omega) n ?_ h1 (by omega) inp (by omega) (fun c _ => .inl rfl) buf line run g1 g2 g3 g4 g5 (show (Wi.runs (Wi.still (Wi.fold true n)) line () inp).1.length ≤ 4294967296 by omega)
    unfold numOpt
    rw [show Op.last [(98, []), (119, D), (115, [])] 119 = some D from rfl]
    simp only [hno]
    simp; omega

end Go.Proofs.YtbpcfjoebfbjmaaGreatDoor

/-
  The walk of the law WidthFolds. Conditions: lengths; what the library's variables hold.
-/
namespace Go.Proofs.YtbpcfjoebfbjmaaGreatDoor
open Go.RowKit Go.Shelf Go.Maps

theorem mayB_false {buf line run : Int} (h : mayB buf line run = true) : 1 ≤ buf ∧ 1 ≤ line ∧ line ≤ run ∧ buf ≤ 1099511627776 ∧ run ≤ 1099511627776 := by
  unfold mayB at h
  simp at h
  omega
theorem foldsOk_step (n : Nat) (c : UInt8) (r inp : Bts) (wide : Nat) (h : Wi.foldsOk n (c :: r) inp wide = true) :
    (if c = 10 then 0 else wide + 1) ≤ n ∧ ((∃ t, inp = c :: t ∧ Wi.foldsOk n r t (if c = 10 then 0 else wide + 1) = true) ∨ ((∀ d t, inp = d :: t → c ≠ d) ∧ c = 10 ∧ Wi.foldsOk n r inp 0 = true)) := by
  cases inp with
  | nil =>
    simp [Wi.foldsOk] at h
    obtain ⟨h1, h2, h3⟩ := h
    rw [if_pos h2] at h3
    exact ⟨h1, .inr ⟨fun d t e => (by cases e), h2, h3⟩⟩
  | cons d t =>
    simp [Wi.foldsOk] at h
    obtain ⟨h1, h2⟩ := h
    refine ⟨h1, ?_⟩
    by_cases hd : c = d
    · rw [if_pos hd] at h2
      subst hd
      exact .inl ⟨t, rfl, h2⟩
    · rw [if_neg hd] at h2
      obtain ⟨h3, h4⟩ := h2
      rw [if_pos h3] at h4
      exact .inr ⟨fun d' t' e => by injection e with e1 e2; rw [← e1]; exact hd, h3, h4⟩
theorem ss_own {w : World} {B g n c : Nat} {l : List Bts} (h : w.ownsRow B 9 1 (.slice (some ⟨g, 0, none⟩) n c) n (l.map strV)) : Ss w (some ⟨g, 0, none⟩) l := fun _ => ⟨g, 0, rfl, fun i hi => by
  have hn : n = l.length := by have := h.1; simpa using this.symm
  rw [Nat.zero_add, h.cellAt i (by omega), List.getElem?_map, List.getElem?_eq_getElem hi, List.getD_eq_getElem?_getD, List.getElem?_eq_getElem hi]
  rfl⟩
theorem drop_cons {l : Bts} {k : Nat} {c : UInt8} {t : Bts} (h : l.drop k = c :: t) : k < l.length ∧ l.getD k 0 = c ∧ l.drop (k + 1) = t := by
  have hk : k < l.length := by
    have := congrArg List.length h
    rw [List.length_drop, List.length_cons] at this
    omega
  rw [List.drop_eq_getElem_cons hk] at h
  injection h with h1 h2
  exact ⟨hk, by rw [List.getD_eq_getElem?_getD, List.getElem?_eq_getElem hk]; exact h1, h2⟩

end Go.Proofs.YtbpcfjoebfbjmaaGreatDoor

/-
  The runs that the law WidthTabs makes; the walk of the document's Blank. Conditions: stops from 1 to 100; no backspace; lengths.
-/
namespace Go.Proofs.YtbpcfjoebfbjmaaGreatDoor
open Go.RowKit Go.Shelf Go.Maps

/-- The same, its status a letter. -/
theorem RunQ.st {args : List Bts} {inp : Bts} {r : Bts × Bool} {buf line run : Nat} (h : RunQ args inp r buf line run) (W : World) (pa : Option Addr) (ca : Nat) (pi : Option Addr) (ci : Nat) (hg : Glo W) (ha : Ss W pa args) (hi : Bs W pi inp) :
    Calls Tryz.prog 6 #[.slice pi inp.length ci, .agg #[.int .i64 buf, .int .i64 line, .int .i64 run], .slice pa args.length ca] W fun e w' => ∃ sv ov ev steps peak err, e = .returned (.tuple #[.agg #[ov, ev, .int .i64 sv, .slice none 0 0, .int .i64 steps, .int .i64 peak, .int .i64 0], .bool true]) ∧ sv = (if r.2 then 0 else 1) ∧ Sl w' (fun g => W.heap.size ≤ g) ov r.1 ∧ Sl w' (fun g => W.heap.size ≤ g) ev err ∧ Below W.heap.size W w' :=
  (h W pa ca pi ci hg ha hi).mono fun _ _ ⟨ov, ev, steps, peak, err, he, so, se, hb⟩ => ⟨_, ov, ev, steps, peak, err, he, rfl, so, se, hb⟩

theorem parts_digits (D : Bts) (h : ∀ c ∈ D, Ord.digit c = true) : Wi.partsBy Wi.sepB D = [D] :=
  Wi.partsBy_miss _ D fun x hx => by
    have := Ord.digit_nat (h x hx)
    unfold Wi.sepB
    simp only [Bool.or_eq_false_iff, beq_eq_false_iff_ne]
    refine ⟨⟨?_, ?_⟩, ?_⟩ <;> rintro rfl <;> revert this <;> decide
theorem itoa_facts (n : Nat) (h : n < 100000000000000000000) : (∀ c ∈ Lib.itoa (n : Int), Ord.digit c = true) ∧ Lib.itoa (n : Int) ≠ [] := by
  rw [itoa_digits n h]
  exact ⟨fun c hc => List.all_eq_true.1 (Wi.digitsF_digit 20 n) c hc, Wi.digits_ne n⟩

/-- A distance of stops, told and read again. -/
structure StopTold (s : Nat) (D : Bts) : Prop where
  one : 1 ≤ s ∧ s ≤ 100
  len : D.length ≤ 21
  ne : D ≠ []
  asked : AskedC [(116, D)] s
theorem stopTold (s : Nat) (h1 : 1 ≤ s) (h2 : s ≤ 100) : StopTold s (Lib.itoa (s : Int)) := by
  have hil := Lib.itoa_length_le (s : Int) (by omega) (by omega)
  obtain ⟨hd, hne⟩ := itoa_facts s (by omega)
  exact ⟨⟨h1, h2⟩, hil, hne, asked_any [(116, Lib.itoa (s : Int))] (Lib.itoa (s : Int)) s (by simp) rfl (by omega) (parts_digits _ hd) (number_itoa s 2147483647 (by omega) (by omega)) h1⟩

theorem tabRunE (s : Nat) (D : Bts) (h : StopTold s D) (inp : Bts) (hin : inp.length ≤ 4194304) (hok : ∀ c ∈ inp, c ≠ 8) (buf line run : Nat) (g1 : 1 ≤ buf) (g2 : 1 ≤ line) (g3 : line ≤ run) (g4 : run ≤ 1099511627776) (g5 : buf ≤ 1099511627776) :
    RunQ [[101, 120, 112, 97, 110, 100], [45, 116], D] inp (Wi.runs (Wi.still (Wi.expand s)) line () inp) buf line run := by
  have hlen := Wi.expand_len s line h.one.1 inp
  have hl2 : (s + 1) * inp.length ≤ 101 * 4194304 := Nat.mul_le_mul (by have := h.one; omega) hin
  have := h.len
  exact runQ_expand [[45, 116], D] (by simp) (by simp) (by simp [totL]; omega) [(116, D)] rfl (by simp) s h.asked h.one.1 (by have := h.one; omega) inp (by omega) hok buf line run g1 g2 g3 g4 g5 (by omega)
theorem tabRunU (s : Nat) (D : Bts) (h : StopTold s D) (inp : Bts) (hin : inp.length ≤ 1048576) (hok : ∀ c ∈ inp, c ≠ 8) (buf line run : Nat) (g1 : 1 ≤ buf) (g2 : 1 ≤ line) (g3 : line ≤ run) (g4 : run ≤ 1099511627776) (g5 : buf ≤ 1099511627776) :
    RunQ [[117, 110, 101, 120, 112, 97, 110, 100], [45, 116], D] inp (Wi.runs (Wi.still (Wi.unexpand s)) line () inp) buf line run := by
  have hlen := Wi.unexpand_len s line h.one.1 inp
  have := h.len
  exact runQ_unexpand [[45, 116], D] (by simp) (by simp) (by simp [totL]; omega) [(116, D)] rfl (by simp) s h.asked h.one.1 (by have := h.one; omega) inp (by omega) hok buf line run g1 g2 g3 g4 g5 (by omega)
theorem tabRunC (s : Nat) (D : Bts) (h : StopTold s D) (inp : Bts) (hin : inp.length ≤ 4194304) (hok : ∀ c ∈ inp, c ≠ 8) (buf line run : Nat) (g1 : 1 ≤ buf) (g2 : 1 ≤ line) (g3 : line ≤ run) (g4 : run ≤ 1099511627776) (g5 : buf ≤ 1099511627776) :
    RunQ [[101, 120, 112, 97, 110, 100], [45, 116] ++ D] inp (Wi.runs (Wi.still (Wi.expand s)) line () inp) buf line run := by
  have hlen := Wi.expand_len s line h.one.1 inp
  have hl2 : (s + 1) * inp.length ≤ 101 * 4194304 := Nat.mul_le_mul (by have := h.one; omega) hin
  have := h.len
  have hp : Op.parse [116, 58] [[45, 116] ++ D] = some ([(116, D)], []) := by
    have hne := h.ne
    cases D with
    | nil => exact absurd rfl hne
    | cons c r => rfl
  exact runQ_expand [[45, 116] ++ D] (by simp) (by simp) (by simp [totL]; omega) [(116, D)] hp (by simp) s h.asked h.one.1 (by have := h.one; omega) inp (by omega) hok buf line run g1 g2 g3 g4 g5 (by omega)

theorem tabsOk_step (c : UInt8) (r inp : Bts) (h : Wi.tabsOk (c :: r) inp = true) : c ≠ 9 ∧ ((c = 32 ∧ Wi.tabsOk r (inp.dropWhile Wi.blank) = true) ∨ (c ≠ 32 ∧ ∃ t, inp.dropWhile Wi.blank = c :: t ∧ Wi.tabsOk r t = true)) := by
  rw [Wi.tabsOk] at h
  by_cases h9 : c = 9
  · rw [if_pos h9] at h; cases h
  rw [if_neg h9] at h
  refine ⟨h9, ?_⟩
  by_cases h32 : c = 32
  · rw [if_pos h32] at h; exact .inl ⟨h32, h⟩
  · rw [if_neg h32] at h
    refine .inr ⟨h32, ?_⟩
    cases hd : inp.dropWhile Wi.blank with
    | nil => rw [hd] at h; cases h
    | cons d t =>
      rw [hd] at h
      simp only at h
      by_cases e : d = c
      · rw [if_pos e] at h; exact ⟨t, by rw [e], h⟩
      · rw [if_neg e] at h; cases h
/-- Blanks, passed one by one. -/
theorem dw_blank {l : Bts} {k : Nat} (hk : k < l.length) (h : Wi.blank (l.getD k 0) = true) : (l.drop (k + 1)).dropWhile Wi.blank = (l.drop k).dropWhile Wi.blank := by
  have e : l.getD k 0 = l[k] := by rw [List.getD_eq_getElem?_getD, List.getElem?_eq_getElem hk]; rfl
  rw [List.drop_eq_getElem_cons hk, List.dropWhile_cons, if_pos (by rw [← e]; exact h)]
theorem dw_stop {l : Bts} {k : Nat} (hk : k < l.length) (h : Wi.blank (l.getD k 0) = false) : (l.drop k).dropWhile Wi.blank = l.getD k 0 :: l.drop (k + 1) := by
  have e : l.getD k 0 = l[k] := by rw [List.getD_eq_getElem?_getD, List.getElem?_eq_getElem hk]; rfl
  rw [List.drop_eq_getElem_cons hk, List.dropWhile_cons, if_neg (by rw [← e, h]; decide), e]

end Go.Proofs.YtbpcfjoebfbjmaaGreatDoor

/-
  The walk of the law WidthTabs. Conditions: lengths; what the library's variables hold.
-/
namespace Go.Proofs.YtbpcfjoebfbjmaaGreatDoor
open Go.RowKit Go.Shelf Go.Maps

end Go.Proofs.YtbpcfjoebfbjmaaGreatDoor

/-
  The run that the law WidthNumbers makes; the walk of the document's Lines. Conditions: numbers below ten thousand; lengths.
-/
namespace Go.Proofs.YtbpcfjoebfbjmaaGreatDoor
open Go.RowKit Go.Shelf Go.Maps

theorem digitsF_len20 : ∀ (f n : Nat), (Wi.digitsF f n).length ≤ f := by
  intro f
  induction f with
  | zero => intro n; simp [Wi.digitsF]
  | succ f ih =>
    intro n
    rw [Wi.digitsF, List.length_append]
    have := ih (n / 10)
    split <;> simp <;> omega
theorem nlZ_len (by_ most v : Nat) (inp : Bts) : (Wi.runs (Wi.nlZ by_) most v inp).1.length ≤ 31 * inp.length := by
  refine Wi.runs_len _ most 1 29 (fun s l => ?_) v inp
  have := digitsF_len20 20 s
  simp only [Wi.nlZ, List.length_append, List.length_replicate, Wi.digits]
  omega

def numArgs (Dv Db : Bts) : List Bts := [[110, 108], [45, 98, 97], [45, 119, 57], [45, 110, 114, 122], [45, 115], [], [45, 118], Dv, [45, 105], Db]
theorem numRun (v by_ : Nat) (hv : v ≤ 9999) (hb : by_ ≤ 9999) (inp : Bts) (hin : inp.length ≤ 5000) (buf line run : Nat) (g1 : 1 ≤ buf) (g2 : 1 ≤ line) (g3 : line ≤ run) (g4 : run ≤ 1099511627776) (g5 : buf ≤ 1099511627776) :
    RunQ (numArgs (Lib.itoa (v : Int)) (Lib.itoa (by_ : Int))) inp (Wi.runs (Wi.nlZ by_) line v inp) buf line run := by
  have hmul : inp.length * by_ ≤ 5000 * 9999 := Nat.mul_le_mul hin hb
  have htie : Wi.runs (nlLine false (!false) [] 9 (by_ : Int)) line (v : Int) inp = Wi.runs (Wi.nlZ by_) line v inp := nl_tie by_ line inp.length v inp (by omega)
  have hlen := nlZ_len by_ line v inp
  rw [← htie] at hlen ⊢
  have hil := Lib.itoa_length_le (v : Int) (by omega) (by omega)
  have hno := number_itoa v 2147483647 (by omega) (by omega)
  have hil2 := Lib.itoa_length_le (by_ : Int) (by omega) (by omega)
  have hno2 := number_itoa by_ 2147483647 (by omega) (by omega)
  generalize Lib.itoa (v : Int) = Dv at *
  generalize Lib.itoa (by_ : Int) = Db at *
  refine runQ_nl [[45, 98, 97], [45, 119, 57], [45, 110, 114, 122], [45, 115], [], [45, 118], Dv, [45, 105], Db] (by simp) (by simp) (by simp [totL]; omega) [(98, [97]), (119, [57]), (110, [114, 122]), (115, []), (118, Dv), (105, Db)] rfl (by simp) (by simp; omega) false [] 9 v by_ ⟨?_, ?_, ?_, rfl, rfl, rfl, by omega, by decide⟩ inp (by omega) buf line run g1 g2 g3 g4 g5 (by omega)
  · unfold numOpt
    rw [show Op.last [(98, [97]), (119, [57]), (110, [114, 122]), (115, []), (118, Dv), (105, Db)] 118 = some Dv from rfl]
    simp only [hno]
    simp
  · unfold numOpt
    rw [show Op.last [(98, [97]), (119, [57]), (110, [114, 122]), (115, []), (118, Dv), (105, Db)] 105 = some Db from rfl]
    simp only [hno2]
    simp
  · unfold numOpt
    rw [show Op.last [(98, [97]), (119, [57]), (110, [114, 122]), (115, []), (118, Dv), (105, Db)] 119 = some [57] from rfl]
    decide

/-! The document's Lines. -/
theorem lines_at (s : Bts) (a i : Nat) (h : a ≤ i) (hi : i < s.length) (hn : ∀ k, a ≤ k → k < i → s.getD k 0 ≠ 10) (hs : s.getD i 0 = 10) : Wi.lines (s.drop a) = (s.drop a).take (i - a) :: Wi.lines (s.drop (i + 1)) := by
  have e1 : s.drop a = (s.drop a).take (i - a) ++ s.drop i := by
    conv => lhs; rw [← List.take_append_drop (i - a) (s.drop a)]
    rw [List.drop_drop]
    congr 2
    omega
  have e2 : s.drop i = 10 :: s.drop (i + 1) := by
    rw [List.drop_eq_getElem_cons hi, ← hs, List.getD_eq_getElem?_getD, List.getElem?_eq_getElem hi]; rfl
  have hno : ∀ c ∈ (s.drop a).take (i - a), c ≠ 10 := fun x hx => by
    obtain ⟨j, hj⟩ := List.mem_iff_getElem?.1 hx
    rw [List.getElem?_take] at hj
    split at hj
    · rename_i hji
      rw [List.getElem?_drop] at hj
      have := hn (a + j) (by omega) (by omega)
      rw [List.getD_eq_getElem?_getD, hj] at this
      exact this
    · cases hj
  have hl := Wi.lineOf_app ((s.drop a).take (i - a)) (s.drop (i + 1)) hno
  rw [← e2, ← e1] at hl
  rw [Wi.lines_cons _ (by intro e; have := congrArg List.length e; rw [List.length_drop] at this; simp at this; omega), hl]
theorem lines_end (s : Bts) (a : Nat) (ha : a < s.length) (hn : ∀ k, a ≤ k → k < s.length → s.getD k 0 ≠ 10) : Wi.lines (s.drop a) = [s.drop a] := by
  have hno : ∀ c ∈ s.drop a, c ≠ 10 := fun x hx => by
    obtain ⟨j, hj⟩ := List.mem_iff_getElem?.1 hx
    rw [List.getElem?_drop] at hj
    have := hn (a + j) (by omega) (List.getElem?_eq_some_iff.1 hj).1
    rw [List.getD_eq_getElem?_getD, hj] at this
    exact this
  rw [Wi.lines_cons _ (by intro e; have := congrArg List.length e; rw [List.length_drop] at this; simp at this; omega), Wi.lineOf_all _ hno]
  rfl

/-- A piece of a slice of bytes. -/
def SubV (b o c : Nat) (inp : Bts) (v : Value) (l : Bts) : Prop := ∃ a, v = .slice (some ⟨b, o + a, none⟩) l.length (c - a) ∧ a + l.length ≤ inp.length ∧ (inp.drop a).take l.length = l
def SubsV (b o c : Nat) (inp : Bts) (vs : List Value) (ls : List Bts) : Prop := vs.length = ls.length ∧ ∀ j, j < ls.length → ∃ v, vs[j]? = some v ∧ SubV b o c inp v (ls.getD j [])
theorem SubsV.push {b o c : Nat} {inp : Bts} {vs : List Value} {ls : List Bts} (h : SubsV b o c inp vs ls) {v : Value} {l : Bts} (hv : SubV b o c inp v l) : SubsV b o c inp (vs ++ [v]) (ls ++ [l]) := by
  refine ⟨by simp [h.1], fun j hj => ?_⟩
  rcases Nat.lt_or_ge j ls.length with hl | hl
  · obtain ⟨x, h1, h2⟩ := h.2 j hl
    refine ⟨x, by rw [List.getElem?_append_left (by rw [h.1]; exact hl)]; exact h1, ?_⟩
    rw [List.getD_eq_getElem?_getD, List.getElem?_append_left hl, ← List.getD_eq_getElem?_getD]
    exact h2
  · have : j = ls.length := by simp at hj; omega
    subst this
    refine ⟨v, by rw [← h.1]; simp, ?_⟩
    simp
    exact hv
theorem SubV.bs {b o c : Nat} {inp : Bts} {v : Value} {l : Bts} {W : World} (h : SubV b o c inp v l) (hb : ∀ i, i < inp.length → W.cell? ⟨b, o + i, none⟩ = some (.int .u8 (inp.getD i 0).toNat)) : ∃ a, v = .slice (some ⟨b, o + a, none⟩) l.length (c - a) ∧ a + l.length ≤ inp.length ∧ ∀ i, i < l.length → W.cell? ⟨b, o + a + i, none⟩ = some (.int .u8 (l.getD i 0).toNat) := by
  obtain ⟨a, h1, h2, h3⟩ := h
  refine ⟨a, h1, h2, fun i hi => ?_⟩
  rw [Nat.add_assoc, hb (a + i) (by omega)]
  have : l.getD i 0 = inp.getD (a + i) 0 := by
    conv => lhs; rw [← h3]
    rw [List.getD_eq_getElem?_getD, List.getD_eq_getElem?_getD, List.getElem?_take, if_pos hi, List.getElem?_drop]
  rw [this]
theorem info_bytes : (Tryz.prog.info? 22).map (fun i => (i.zero, i.size, i.bytes)) = some (some (.slice none 0 0), 1, 24) := by kernel_rfl

end Go.Proofs.YtbpcfjoebfbjmaaGreatDoor
