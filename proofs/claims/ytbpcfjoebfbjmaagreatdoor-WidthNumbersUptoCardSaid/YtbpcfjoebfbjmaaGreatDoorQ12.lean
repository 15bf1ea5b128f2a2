/-
  Texts of this seat put together: TabLaw, V7.
-/
import Derived.Test.YtbpcfjoebfbjmaaGreatDoorQ5
import Derived.Test.YtbpcfjoebfbjmaaGreatDoorQ11

/-
  The plain law of expand and unexpand. No program in sight. Condition: stops at least one apart.
-/
namespace Go.Proofs.YtbpcfjoebfbjmaaGreatDoor.Wi
open Go

/-- The law's own check of what was expanded. -/
def tabsOk : Bytes → Bytes → Bool
  | [], _ => true
  | c :: r, inp => if c = 9 then false
    else if c = 32 then tabsOk r (inp.dropWhile blank)
    else match inp.dropWhile blank with
      | [] => false
      | d :: t => if d = c then tabsOk r t else false

theorem dw_dw (u : Bytes) : (u.dropWhile blank).dropWhile blank = u.dropWhile blank := by
  induction u with
  | nil => rfl
  | cons c r ih =>
    rw [List.dropWhile_cons]
    split
    · exact ih
    · rename_i h
      rw [List.dropWhile_cons, if_neg h]
theorem tabsOk_dw {R u : Bytes} (h : tabsOk R u = true) : tabsOk R (u.dropWhile blank) = true := by
  cases R with
  | nil => rfl
  | cons c r =>
    rw [tabsOk] at h ⊢
    rw [dw_dw]
    exact h
theorem tabsOk_more {R u : Bytes} (h : tabsOk R u = true) : ∀ m, tabsOk (List.replicate m 32 ++ R) u = true := by
  intro m
  induction m generalizing u with
  | zero => exact h
  | succ m ih =>
    rw [List.replicate_succ, List.cons_append, tabsOk, if_neg (by decide), if_pos rfl]
    exact ih (tabsOk_dw h)
theorem tabsOk_skip {X u : Bytes} {c : UInt8} (h : tabsOk X u = true) (hc : blank c = true) : tabsOk X (c :: u) = true := by
  cases X with
  | nil => rfl
  | cons d r =>
    rw [tabsOk] at h ⊢
    rw [List.dropWhile_cons, if_pos hc]
    exact h
theorem tabsOk_one {X u : Bytes} {c : UInt8} (h : tabsOk X u = true) (hc : c ≠ 9) : tabsOk (c :: X) (c :: u) = true := by
  rw [tabsOk, if_neg hc]
  by_cases h32 : c = 32
  · rw [if_pos h32, List.dropWhile_cons, if_pos (by rw [h32]; rfl)]
    exact tabsOk_dw h
  · rw [if_neg h32, List.dropWhile_cons, if_neg (by simp [blank, h32, hc])]
    simpa using h

theorem expand_ok (s : Nat) {rest t : Bytes} (h : tabsOk rest t = true) : ∀ (line : Bytes) (col : Nat), tabsOk (expandF s col line ++ rest) (line ++ t) = true := by
  intro line
  induction line with
  | nil => intro col; exact h
  | cons c r ih =>
    intro col
    rw [expandF, List.append_assoc, List.cons_append]
    by_cases hc : c = 9
    · subst hc
      rw [if_pos rfl]
      exact tabsOk_skip (tabsOk_more (ih _) _) rfl
    · rw [if_neg hc, List.singleton_append]
      exact tabsOk_one (ih _) hc

theorem tabs_law (s most : Nat) : ∀ (k : Nat) (inp : Bytes), inp.length ≤ k → (runsF (still (expand s)) most k () inp).2 = true → tabsOk (runsF (still (expand s)) most k () inp).1 inp = true := by
  intro k
  induction k with
  | zero =>
    intro inp hk _
    rfl
  | succ k ih =>
    intro inp hk hok
    rw [runsF] at hok ⊢
    by_cases h0 : inp = []
    · rw [if_pos h0]; rfl
    rw [if_neg h0] at hok ⊢
    simp only at hok ⊢
    by_cases hm : most < (lineOf inp).1.length
    · rw [if_pos hm] at hok; cases hok
    rw [if_neg hm] at hok ⊢
    simp only [still] at hok ⊢
    obtain ⟨h1, h2, h3⟩ := lineOf_spec inp
    have hr := lineOf_rest inp h0
    have ihh := ih (lineOf inp).2.2 (by omega) hok
    conv => lhs; arg 2; rw [h1]
    rw [List.append_assoc, List.append_assoc]
    refine expand_ok s ?_ _ 0
    cases hf : (lineOf inp).2.1 with
    | true => exact tabsOk_one ihh (by decide)
    | false => exact ihh

/-! ## What was unexpanded and then expanded -/

def endCol (s col : Nat) (l : Bytes) : Nat := l.foldl (tabCol s) col
theorem next_gt (s col : Nat) (hs : 1 ≤ s) : col < nextOf s col := by
  have := Nat.mod_lt col (show 0 < s by omega)
  have := Nat.mod_le col s
  unfold nextOf; omega
theorem expandF_app (s : Nat) : ∀ (x y : Bytes) (col : Nat), expandF s col (x ++ y) = expandF s col x ++ expandF s (endCol s col x) y := by
  intro x
  induction x with
  | nil => intro y col; rfl
  | cons c r ih =>
    intro y col
    rw [List.cons_append, expandF, expandF, ih, List.append_assoc]
    rfl
theorem tab_gt (s col : Nat) (c : UInt8) (hs : 1 ≤ s) : col < tabCol s col c := by
  unfold tabCol
  split
  · exact next_gt s col hs
  · omega
theorem end_ge (s : Nat) (hs : 1 ≤ s) : ∀ (p : Bytes) (col : Nat), col + p.length ≤ endCol s col p := by
  intro p
  induction p with
  | nil => intro col; exact Nat.le_refl _
  | cons c r ih =>
    intro col
    have h1 := tab_gt s col c hs
    have h2 := ih (tabCol s col c)
    show col + (r.length + 1) ≤ endCol s (tabCol s col c) r
    omega
theorem expandF_blank (s : Nat) (hs : 1 ≤ s) : ∀ (p : Bytes) (col : Nat), (∀ c ∈ p, blank c = true) → expandF s col p = List.replicate (endCol s col p - col) 32 := by
  intro p
  induction p with
  | nil => intro col _; simp [expandF, endCol]
  | cons c r ih =>
    intro col hp
    rw [expandF, ih _ (fun x hx => hp x (by simp [hx]))]
    have h1 := tab_gt s col c hs
    have h2 := end_ge s hs r (tabCol s col c)
    have he : endCol s col (c :: r) = endCol s (tabCol s col c) r := rfl
    rw [he]
    have hb := hp c (by simp)
    by_cases hc : c = 9
    · rw [if_pos hc]
      have ht : tabCol s col c = nextOf s col := by unfold tabCol; rw [if_pos hc]
      rw [ht] at h1 h2 ⊢
      rw [List.replicate_append_replicate]
      congr 1; omega
    · rw [if_neg hc]
      have ht : tabCol s col c = col + 1 := by unfold tabCol; rw [if_neg hc]
      have h32 : c = 32 := by simp [blank, hc] at hb; exact hb
      rw [ht] at h1 h2 ⊢
      rw [h32, List.singleton_append, ← List.replicate_succ]
      congr 1; omega
theorem end_spaces (s : Nat) : ∀ (m col : Nat), endCol s col (List.replicate m 32) = col + m := by
  intro m
  induction m with
  | zero => intro col; rfl
  | succ m ih =>
    intro col
    rw [List.replicate_succ]
    show endCol s (tabCol s col 32) _ = _
    rw [show tabCol s col 32 = col + 1 from rfl, ih]
    omega
theorem run_spec (s : Nat) (hs : 1 ≤ s) : ∀ (k from_ upTo : Nat), from_ ≤ upTo → upTo - from_ < k → endCol s from_ (runOf s k from_ upTo) = upTo ∧ (∀ c ∈ runOf s k from_ upTo, blank c = true) := by
  intro k
  induction k with
  | zero => intro _ _ _ h; omega
  | succ k ih =>
    intro from_ upTo hle hk
    rw [runOf]
    by_cases h : upTo < nextOf s from_
    · rw [if_pos h]
      refine ⟨by rw [end_spaces]; omega, fun c hc => ?_⟩
      rw [(List.mem_replicate.1 hc).2]; rfl
    · rw [if_neg h]
      have h1 := next_gt s from_ hs
      obtain ⟨h2, h3⟩ := ih (nextOf s from_) upTo (by omega) (by omega)
      refine ⟨?_, fun c hc => ?_⟩
      · show endCol s (tabCol s from_ 9) _ = _
        rw [show tabCol s from_ 9 = nextOf s from_ from rfl]
        exact h2
      · rcases List.mem_cons.1 hc with rfl | hc
        · rfl
        · exact h3 c hc
theorem run_fuel (s : Nat) (hs : 1 ≤ s) : ∀ (k k' from_ upTo : Nat), upTo - from_ < k → upTo - from_ < k' → runOf s k from_ upTo = runOf s k' from_ upTo := by
  intro k
  induction k with
  | zero => intro _ _ _ h; omega
  | succ k ih =>
    intro k' from_ upTo h1 h2
    cases k' with
    | zero => omega
    | succ k' =>
      rw [runOf, runOf]
      by_cases h : upTo < nextOf s from_
      · rw [if_pos h, if_pos h]
      · have := next_gt s from_ hs
        rw [if_neg h, if_neg h, ih k' _ _ (by omega) (by omega)]
/-- The next stop of a column that is one further on. -/
theorem next_succ (s col : Nat) (hs : 1 ≤ s) : nextOf s col = col + 1 ∨ nextOf s (col + 1) = nextOf s col := by
  unfold nextOf
  have hd := Nat.div_add_mod col s
  have hm := Nat.mod_lt col (show 0 < s by omega)
  by_cases h : col % s + 1 = s
  · left; have := Nat.mod_le col s; omega
  · right
    have h1 : (col + 1) % s = col % s + 1 := by
      rw [show col + 1 = s * (col / s) + (col % s + 1) by rw [← Nat.add_assoc, Nat.div_add_mod], Nat.mul_add_mod, Nat.mod_eq_of_lt (by omega)]
    rw [h1]
    have := Nat.mod_le col s
    omega

theorem run_le (s : Nat) (hs : 1 ≤ s) : ∀ (k from_ upTo : Nat), from_ ≤ upTo → upTo - from_ < k → (runOf s k from_ upTo).length ≤ upTo - from_ := by
  intro k from_ upTo h1 h2
  have h3 := (run_spec s hs k from_ upTo h1 h2).1
  have h4 := end_ge s hs (runOf s k from_ upTo) from_
  omega
/-- A run of blanks is told in no more. -/
theorem run_min (s : Nat) (hs : 1 ≤ s) : ∀ (p : Bytes) (col : Nat), (∀ c ∈ p, blank c = true) → ∀ k, endCol s col p - col < k → (runOf s k col (endCol s col p)).length ≤ p.length := by
  intro p
  induction p with
  | nil =>
    intro col _ k hk
    have h1 : endCol s col [] = col := rfl
    rw [h1] at hk ⊢
    have := run_le s hs k col col (Nat.le_refl _) hk
    simp at this ⊢
    exact this
  | cons c r ih =>
    intro col hp k hk
    have hr : ∀ x ∈ r, blank x = true := fun x hx => hp x (by simp [hx])
    have he : endCol s col (c :: r) = endCol s (tabCol s col c) r := rfl
    rw [he] at hk ⊢
    have h2 := end_ge s hs r (tabCol s col c)
    have h1 := tab_gt s col c hs
    obtain ⟨k, rfl⟩ : ∃ k', k = k' + 1 := ⟨k - 1, by omega⟩
    have hn := next_gt s col hs
    have hb := hp c (by simp)
    by_cases hc : c = 9
    · have ht : tabCol s col c = nextOf s col := by unfold tabCol; rw [if_pos hc]
      rw [ht] at hk h1 h2 ⊢
      rw [runOf, if_neg (by omega), List.length_cons, List.length_cons]
      have := ih (nextOf s col) hr k (by omega)
      omega
    · have ht : tabCol s col c = col + 1 := by unfold tabCol; rw [if_neg hc]
      rw [ht] at hk h1 h2 ⊢
      have h5 := ih (col + 1) hr (k + 1) (by omega)
      rw [List.length_cons]
      rw [runOf] at h5 ⊢
      rcases next_succ s col hs with h6 | h6
      · by_cases h7 : endCol s (col + 1) r < nextOf s col
        · rw [if_pos h7, List.length_replicate]; omega
        · rw [if_neg h7, List.length_cons, h6]
          have h8 := ih (col + 1) hr k (by omega)
          omega
      · rw [h6] at h5
        by_cases h7 : endCol s (col + 1) r < nextOf s col
        · rw [if_pos h7, List.length_replicate] at h5 ⊢; omega
        · rw [if_neg h7, List.length_cons] at h5 ⊢; omega

theorem piece_spec (s : Nat) (hs : 1 ≤ s) (p : Bytes) (col : Nat) (hp : ∀ c ∈ p, blank c = true) :
    endCol s col (pieceOf s p col (endCol s col p)) = endCol s col p ∧ (∀ c ∈ pieceOf s p col (endCol s col p), blank c = true) ∧ (pieceOf s p col (endCol s col p)).length ≤ p.length ∧ (pieceOf s p col (endCol s col p)).length ≤ endCol s col p - col := by
  have he := end_ge s hs p col
  unfold pieceOf
  by_cases h : p = [32]
  · rw [if_pos h]
    refine ⟨rfl, hp, Nat.le_refl _, ?_⟩
    omega
  · rw [if_neg h]
    obtain ⟨h1, h2⟩ := run_spec s hs (endCol s col p - col + 1) col (endCol s col p) (by omega) (by omega)
    exact ⟨h1, h2, run_min s hs p col hp _ (by omega), run_le s hs _ _ _ (by omega) (by omega)⟩

theorem takeWhile_all (l : Bytes) : ∀ c ∈ l.takeWhile blank, blank c = true := by
  induction l with
  | nil => intro c hc; cases hc
  | cons a r ih =>
    intro c hc
    rw [List.takeWhile_cons] at hc
    split at hc
    · rcases List.mem_cons.1 hc with rfl | hc
      · assumption
      · exact ih c hc
    · cases hc

theorem unexpand_spec (s : Nat) (hs : 1 ≤ s) : ∀ (k col : Nat) (line : Bytes), line.length ≤ k → expandF s col (unexpandF s k col line) = expandF s col line ∧ (unexpandF s k col line).length ≤ line.length ∧ (unexpandF s k col line).length ≤ (expandF s col line).length ∧ ((∀ c ∈ line, c ≠ 10) → ∀ c ∈ unexpandF s k col line, c ≠ 10) := by
  intro k
  induction k with
  | zero =>
    intro col line hk
    have : line = [] := List.eq_nil_of_length_eq_zero (by omega)
    subst this
    exact ⟨rfl, Nat.le_refl _, Nat.le_refl _, fun h => h⟩
  | succ k ih =>
    intro col line hk
    cases line with
    | nil => exact ⟨rfl, Nat.le_refl _, Nat.le_refl _, fun h => h⟩
    | cons c r =>
      rw [unexpandF]
      simp only
      by_cases hb : blank c = true
      · rw [if_pos hb]
        have hp := takeWhile_all (c :: r)
        have hsplit := List.takeWhile_append_dropWhile (p := blank) (l := c :: r)
        have hpl : 1 ≤ ((c :: r).takeWhile blank).length := by rw [List.takeWhile_cons, if_pos hb]; simp
        have hlen := congrArg List.length hsplit
        rw [List.length_append] at hlen
        generalize (c :: r).takeWhile blank = p at *
        generalize (c :: r).dropWhile blank = rest at *
        obtain ⟨h1, h2, h3, h4⟩ := piece_spec s hs p col hp
        have hto : p.foldl (tabCol s) col = endCol s col p := rfl
        rw [hto]
        obtain ⟨i1, i2, i3, i4⟩ := ih (endCol s col p) rest (by omega)
        have e1 : expandF s col (c :: r) = List.replicate (endCol s col p - col) 32 ++ expandF s (endCol s col p) rest := by
          rw [← hsplit, expandF_app, expandF_blank s hs p col hp]
        refine ⟨?_, ?_, ?_, ?_⟩
        · rw [expandF_app, h1, i1, expandF_blank s hs _ col h2, h1, e1]
        · rw [List.length_append]; omega
        · rw [e1, List.length_append, List.length_append, List.length_replicate]; omega
        · intro h10 x hx
          rcases List.mem_append.1 hx with hx | hx
          · have := h2 x hx
            rintro rfl
            exact absurd this (by decide)
          · exact i4 (fun y hy => h10 y (by rw [← hsplit]; exact List.mem_append_right _ hy)) x hx
      · rw [if_neg hb]
        have hc : c ≠ 9 := by rintro rfl; exact hb rfl
        obtain ⟨i1, i2, i3, i4⟩ := ih (col + 1) r (by simp at hk; omega)
        have ht : tabCol s col c = col + 1 := by unfold tabCol; rw [if_neg hc]
        refine ⟨?_, ?_, ?_, ?_⟩
        · rw [expandF, expandF, ht, i1]
        · simp; omega
        · rw [expandF, ht, if_neg hc, List.singleton_append]; simp; omega
        · intro h10 x hx
          rcases List.mem_cons.1 hx with rfl | hx
          · exact h10 x (by simp)
          · exact i4 (fun y hy => h10 y (by simp [hy])) x hx

theorem runsF_fuel {σ : Type} (f : σ → Bytes → σ × Bytes) (most : Nat) : ∀ (k k' : Nat) (s : σ) (inp : Bytes), inp.length ≤ k → inp.length ≤ k' → runsF f most k s inp = runsF f most k' s inp := by
  intro k
  induction k with
  | zero =>
    intro k' s inp h1 h2
    have : inp = [] := List.eq_nil_of_length_eq_zero (by omega)
    subst this
    cases k' with
    | zero => rfl
    | succ k' => rw [runsF, runsF, if_pos rfl]
  | succ k ih =>
    intro k' s inp h1 h2
    cases k' with
    | zero =>
      have : inp = [] := List.eq_nil_of_length_eq_zero (by omega)
      subst this
      rw [runsF, runsF, if_pos rfl]
    | succ k' =>
      rw [runsF, runsF]
      by_cases h0 : inp = []
      · rw [if_pos h0, if_pos h0]
      have hr := lineOf_rest inp h0
      rw [if_neg h0, if_neg h0]
      simp only
      rw [ih k' _ _ (by omega) (by omega)]

theorem lineOf_fed (x y : Bytes) (hx : ∀ c ∈ x, c ≠ 10) : lineOf (x ++ 10 :: y) = (x, true, y) := by
  induction x with
  | nil => rfl
  | cons c r ih =>
    rw [List.cons_append, lineOf, if_neg (hx c (by simp)), ih fun d hd => hx d (by simp [hd])]
theorem lineOf_last (x : Bytes) (hx : ∀ c ∈ x, c ≠ 10) : lineOf x = (x, false, []) := by
  induction x with
  | nil => rfl
  | cons c r ih =>
    rw [lineOf, if_neg (hx c (by simp)), ih fun d hd => hx d (by simp [hd])]
theorem expandF_ne (s : Nat) (hs : 1 ≤ s) (col : Nat) (l : Bytes) (h : expandF s col l = []) : l = [] := by
  cases l with
  | nil => rfl
  | cons c r =>
    rw [expandF] at h
    have h2 := (List.append_eq_nil_iff.1 h).1
    split at h2
    · have h3 := congrArg List.length h2
      rw [List.length_replicate] at h3
      have := next_gt s col hs
      simp at h3
      omega
    · cases h2

/-- What was unexpanded and then expanded is the input expanded; it is no longer; it fails where that does. -/
theorem back_law (s most : Nat) (hs : 1 ≤ s) : ∀ (k : Nat) (inp : Bytes), inp.length ≤ k →
    (runsF (still (unexpand s)) most k () inp).2 = (runsF (still (expand s)) most k () inp).2 ∧
    ((runsF (still (expand s)) most k () inp).2 = true →
      (runsF (still (unexpand s)) most k () inp).1.length ≤ (runsF (still (expand s)) most k () inp).1.length ∧
      runs (still (expand s)) most () (runsF (still (unexpand s)) most k () inp).1 = ((runsF (still (expand s)) most k () inp).1, true)) := by
  intro k
  induction k with
  | zero => intro inp hk; exact ⟨rfl, fun _ => ⟨Nat.le_refl _, rfl⟩⟩
  | succ k ih =>
    intro inp hk
    rw [runsF, runsF]
    by_cases h0 : inp = []
    · rw [if_pos h0, if_pos h0]; exact ⟨rfl, fun _ => ⟨Nat.le_refl _, rfl⟩⟩
    rw [if_neg h0, if_neg h0]
    simp only [still]
    by_cases hm : most < (lineOf inp).1.length
    · rw [if_pos hm, if_pos hm]
      exact ⟨rfl, fun h => by cases h⟩
    rw [if_neg hm, if_neg hm]
    obtain ⟨h1, h2, h3⟩ := lineOf_spec inp
    have hr := lineOf_rest inp h0
    obtain ⟨i1, i2⟩ := ih (lineOf inp).2.2 (by omega)
    refine ⟨i1, fun hok => ?_⟩
    obtain ⟨i3, i4⟩ := i2 hok
    obtain ⟨u1, u2, u3, u4⟩ := unexpand_spec s hs (lineOf inp).1.length 0 (lineOf inp).1 (Nat.le_refl _)
    have u5 := u4 h2
    have hU : unexpand s (lineOf inp).1 = unexpandF s (lineOf inp).1.length 0 (lineOf inp).1 := rfl
    have hE : expand s (lineOf inp).1 = expandF s 0 (lineOf inp).1 := rfl
    rw [← hU] at u1 u2 u3 u5
    refine ⟨?_, ?_⟩
    · rw [hE]
      simp only [List.length_append]
      omega
    · have hRT : (lineOf inp).2.1 = false → (runsF (still (unexpand s)) most k () (lineOf inp).2.2).1 = [] ∧ (runsF (still (expand s)) most k () (lineOf inp).2.2).1 = [] := by
        intro hf
        rw [h3 hf]
        cases k with
        | zero => exact ⟨rfl, rfl⟩
        | succ k => rw [runsF, runsF, if_pos rfl, if_pos rfl]; exact ⟨rfl, rfl⟩
      generalize (runsF (still (unexpand s)) most k () (lineOf inp).2.2).1 = R at *
      generalize (runsF (still (expand s)) most k () (lineOf inp).2.2).1 = T at *
      generalize hUU : unexpand s (lineOf inp).1 = U at *
      have hex : expand s U = expand s (lineOf inp).1 := u1
      cases hf : (lineOf inp).2.1 with
      | true =>
        show runs _ _ _ (U ++ [10] ++ R) = (expand s (lineOf inp).1 ++ [10] ++ T, true)
        have e1 : U ++ [10] ++ R = U ++ 10 :: R := by simp
        have hl := lineOf_fed U R u5
        unfold runs
        rw [e1]
        obtain ⟨m, hmm⟩ : ∃ m, (U ++ 10 :: R).length = m + 1 := ⟨U.length + R.length, by simp; omega⟩
        rw [hmm, runsF, if_neg (by simp)]
        simp only [hl]
        rw [if_neg (by omega)]
        simp only [still]
        have hRl : R.length ≤ m := by have := hmm; simp at this; omega
        have e2 : runsF (still (expand s)) most m () R = (T, true) := by
          rw [← i4]
          exact runsF_fuel _ most m R.length () R hRl (Nat.le_refl _)
        rw [e2, hex]
        rfl
      | false =>
        have hR : (lineOf inp).2.2 = [] := h3 hf
        show runs _ _ _ (U ++ [] ++ R) = (expand s (lineOf inp).1 ++ [] ++ T, true)
        obtain ⟨rfl, rfl⟩ := hRT hf
        rw [List.append_nil, List.append_nil, List.append_nil, List.append_nil]
        have hU0 : U ≠ [] := by
          intro e
          rw [e] at hex
          have h5 : (lineOf inp).1 = [] := expandF_ne s hs 0 _ hex.symm
          rw [h5, hf, hR] at h1
          exact h0 h1
        have hl := lineOf_last U u5
        unfold runs
        obtain ⟨m, hmm⟩ : ∃ m, U.length = m + 1 := ⟨U.length - 1, by have := List.length_pos_iff.2 hU0; omega⟩
        rw [hmm, runsF, if_neg hU0]
        simp only [hl]
        rw [if_neg (by omega)]
        simp only [still]
        have e2 : runsF (still (expand s)) most m () [] = ([], true) := by
          cases m with
          | zero => rfl
          | succ m => rw [runsF, if_pos rfl]
        rw [e2, hex]
        simp [feedOf]

end Go.Proofs.YtbpcfjoebfbjmaaGreatDoor.Wi

/-
  What a filter is to show; the writing of bytes, of none too. Condition: a process that runs; lengths.
-/
namespace Go.Proofs.YtbpcfjoebfbjmaaGreatDoor
open Go.RowKit Go.Shelf Go.Maps

/-- A filter: a function value, the blocks of its own that it may write, what it is in a world (which bears stores from the block B on); which bytes it takes. -/
structure Filt {σ : Type} (B : Nat) (g : Nat) (first caps : Array Value) (K : Nat → Prop) (f : σ → Bts → σ × Bts) (St : σ → World → Prop) (okc : UInt8 → Prop) : Prop where
  keep : ∀ s W W' S, St s W → Kept S W W' → (∀ j, S j → ¬ K j) → (∀ j, S j → B ≤ j) → St s W'
  lt : ∀ s W, St s W → ∀ j, K j → j < W.heap.size
  noByte : ∀ s W, St s W → ∀ j, K j → ∀ i n, W.cell? ⟨j, i, none⟩ ≠ some (.int .u8 n)
  call : ∀ s W lv L, St s W → SlE W (fun g => ¬ K g) lv L → (∀ c ∈ L, okc c) → L.length ≤ 4294967296 → (f s L).2.length ≤ 4294967296 →
    Calls Tryz.prog g (first ++ #[lv] ++ caps) W fun e W' => ∃ v, e = .returned v ∧ SlE W' (fun j => W.heap.size ≤ j) v (f s L).2 ∧ St (f s L).1 W' ∧ Kept K W W'

theorem RdrW.keptK {W W' : World} {F : Fx} {M S : Nat → Prop} {rd o : Nat} {buf inp out err : Bts} {feed over : Bool} (h : RdrW W F M rd buf o feed over inp out err) (hk : Kept S W W') (hS : ∀ j, S j → F.n0 ≤ j ∧ ¬ M j ∧ j ≠ rd) (hno : ∀ j, S j → ∀ i n, W.cell? ⟨j, i, none⟩ ≠ some (.int .u8 n)) : RdrW W' F M rd buf o feed over inp out err := by
  obtain ⟨hp, ⟨v, hb, hs⟩, n0, ow⟩ := h
  refine ⟨hp.kept hk fun j hj => ⟨(hS j hj).1, (hS j hj).2.1⟩, ⟨v, Blk.kept hb hk fun h => (hS _ h).2.2 rfl, ?_⟩, n0, ow⟩
  rcases hs with h | ⟨g, o, c, h1, h2, h3, h4, h5⟩
  · exact .inl h
  · refine .inr ⟨g, o, c, h1, h2, Nat.lt_of_lt_of_le h3 hk.size, h4, fun i hi => ?_⟩
    have hg : ¬ S g := fun hg => hno g hg _ _ (h5 i hi)
    exact (World.cell?_of_block (hk.block g h3 hg)).trans (h5 i hi)

set_option maxRecDepth 100000 in
set_option maxHeartbeats 2000000 in
theorem wrE_any1 (F : Fx) (M : Nat → Prop) (inp out err xs : Bts) (v : Value) (w : World) (h : PrAt w F M inp out err) (hx : SlE w (fun g => ¬ M g) v xs) (hbig : out.length + xs.length ≤ 4294967296) :
    Calls Tryz.prog 121 #[.pointer (some ⟨F.p, 0, none⟩), .int .i64 1, v] w fun e w' => e = .returned (.int .i64 0) ∧ ∃ M', PrAt w' F M' inp (out ++ xs) err ∧ Mv M M' w w' := by
  rcases hx with ⟨rfl, p, c, rfl⟩ | ⟨-, hx⟩
  · have H := Lib.hid h
    clear h
    go_enter Tryz.func121, Tryz.ntmps121
    go_wp2_with fail
    go_loopw [2, 7, 8] (fun x2 _x7 _x8 wr => x2 = .slice p 0 c ∧ wr = w) (fun _ _ _ _ => 0)
    case atStart => exact ⟨rfl, rfl⟩
    case round =>
      obtain ⟨rfl, rfl⟩ := hrel
      go_wp2_with fail
      go_ret
      refine ⟨rfl, M, ?_, Mv.refl _ _⟩
      rw [List.append_nil]
      exact H.out
  · exact wrAll_any1 F M inp out err xs v w h hx hbig

end Go.Proofs.YtbpcfjoebfbjmaaGreatDoor
