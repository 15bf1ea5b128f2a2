/-
  Where a literal stands, as plain functions: its states, and what they find. No program in sight.
  No condition.
-/
import Derived.Test.YthdkbbkkijdhfaaGreatDoorMy
namespace Go.Proofs.YthdkbbkkijdhfaaGreatDoor.Mx
open Go

def hset (c : UInt8) : Has := Rx.folds false fun d => d == c
theorem hset_eq (c d : UInt8) : hset c d = (d == c) := by simp [hset, Rx.folds]
/-- The states of a literal. -/
def litP : Bytes → List St
  | [] => [⟨4, no, 0, 0⟩]
  | c :: r => litP r ++ [⟨0, hset c, r.length, 0⟩]
theorem litP_len (s : Bytes) : (litP s).length = s.length + 1 := by
  induction s with
  | nil => rfl
  | cons c r ih => simp [litP, ih]

theorem lay_one (c : UInt8) (to : Nat) (L : List St) : lay (Rx.one false c) to L = (L.length, L ++ [⟨0, hset c, to, 0⟩]) := by
  show lay (.set (hset c)) to L = _
  rw [lay]
theorem layCat_lit (s : Bytes) : layCat (s.map (Rx.one false)) 0 [⟨4, no, 0, 0⟩] = (s.length, litP s) := by
  induction s with
  | nil => rw [List.map_nil, layCat]; rfl
  | cons c r ih =>
    rw [List.map_cons, layCat, ih, lay_one, litP_len]
    rfl
theorem lay_lit (s : Bytes) : lay (Rx.joinN .cat (s.map (Rx.one false))) 0 [⟨4, no, 0, 0⟩] = (s.length, litP s) := by
  match s with
  | [] => rw [List.map_nil, Rx.joinN, lay]; rfl
  | [c] =>
    have := layCat_lit [c]
    rw [List.map_cons, List.map_nil, layCat, layCat] at this
    rw [List.map_cons, List.map_nil, Rx.joinN]
    exact this
  | c :: d :: r =>
    have := layCat_lit (c :: d :: r)
    rw [List.map_cons, List.map_cons] at this ⊢
    rw [Rx.joinN]
    · rw [lay]; exact this
    · simp
    · simp

theorem litP_pre (p t : Bytes) : ∃ X, litP (p ++ t) = litP t ++ X := by
  induction p with
  | nil => exact ⟨[], by simp⟩
  | cons c r ih =>
    obtain ⟨X, hX⟩ := ih
    exact ⟨X ++ [⟨0, hset c, (r ++ t).length, 0⟩], by rw [List.cons_append, litP, hX, List.append_assoc]⟩
theorem litP_get (p t : Bytes) : (litP (p ++ t)).getD t.length default = (match t with | [] => ⟨4, no, 0, 0⟩ | c :: r => ⟨0, hset c, r.length, 0⟩ : St) := by
  obtain ⟨X, hX⟩ := litP_pre p t
  rw [hX, List.getD_eq_getElem?_getD, List.getElem?_append_left (by rw [litP_len]; omega)]
  cases t with
  | nil => rfl
  | cons c r =>
    rw [litP, List.getElem?_append_right (by rw [litP_len]; simp)]
    simp [litP_len]

/-- A state that stays, put in alone. -/
theorem put_lone (P : List St) (x : Run) (n at_ size : Nat) (hs : stays (P.getD n default) = true) (hn : x.has.getD n 0 ≠ at_ + 1) : put P x n at_ size = ⟨x.l ++ [n], x.has.set n (at_ + 1)⟩ := by
  have ho : onto (P.getD n default) at_ size [] = [] := by
    simp [stays] at hs
    unfold onto
    simp [hs]
  have he : enter P at_ n x = ⟨x.l ++ [n], x.has.set n (at_ + 1)⟩ := by unfold enter; rw [if_pos hs]
  unfold put fuel
  rw [putF_new _ _ _ _ _ _ _ hn, ho, putF_nil, he]
  rfl

def Low (k : Nat) (h : List Nat) : Prop := ∀ a ∈ h, a ≤ k
theorem Low.get {k : Nat} {h : List Nat} (hl : Low k h) (n : Nat) : h.getD n 0 ≤ k := by
  rw [List.getD_eq_getElem?_getD]
  rcases Nat.lt_or_ge n h.length with hn | hn
  · rw [List.getElem?_eq_getElem hn]; exact hl _ (List.getElem_mem _)
  · rw [List.getElem?_eq_none hn]; exact Nat.zero_le _
theorem Low.set {k : Nat} {h : List Nat} (hl : Low k h) (n : Nat) : Low (k + 1) (h.set n (k + 1)) := by
  intro a ha
  rcases List.mem_or_eq_of_mem_set ha with h1 | h1
  · exact Nat.le_succ_of_le (hl a h1)
  · omega
theorem Low.succ {k : Nat} {h : List Nat} (hl : Low k h) : Low (k + 1) h := fun a ha => Nat.le_succ_of_le (hl a ha)

theorem run_nil (P : List St) (b : Bytes) (f at_ : Nat) (h : List Nat) (next : Run) (last : Option Nat) : run P b f at_ ⟨[], h⟩ next last = last := by
  cases f with
  | zero => rfl
  | succ f => rw [run, if_pos rfl]

theorem run_lit (s b : Bytes) : ∀ (t p : Bytes) (f at_ : Nat) (now next : Run) (last : Option Nat), s = p ++ t → at_ ≤ b.length → b.length < at_ + f → now.l = [t.length] → Low (at_ + 1) now.has → Low (at_ + 1) next.has →
    run (litP s) b f at_ now next last = if t.isPrefixOf (b.drop at_) then some (at_ + t.length) else last := by
  intro t
  induction t with
  | nil =>
    intro p f at_ now next last hs ha hf hn h1 h2
    obtain ⟨f, rfl⟩ : ∃ g, f = g + 1 := ⟨f - 1, by omega⟩
    have hg := litP_get p []
    rw [← hs] at hg
    have hr : round (litP s) b at_ now.l ⟨[], next.has⟩ last = (⟨[], next.has⟩, some at_) := by
      rw [hn, round_over _ _ _ _ _ _ _ (by rw [hg]), round]
    rw [run, if_neg (by rw [hn]; simp)]
    simp only [hr]
    rw [run_nil]
    simp
  | cons c r ih =>
    intro p f at_ now next last hs ha hf hn h1 h2
    obtain ⟨f, rfl⟩ : ∃ g, f = g + 1 := ⟨f - 1, by omega⟩
    have hg := litP_get p (c :: r)
    rw [← hs] at hg
    simp only at hg
    rw [run, if_neg (by rw [hn]; simp)]
    by_cases hl : at_ < b.length
    · have hd : b.drop at_ = b.getD at_ 0 :: b.drop (at_ + 1) := by
        rw [List.drop_eq_getElem_cons hl]
        simp [List.getD_eq_getElem?_getD, List.getElem?_eq_getElem hl]
      rw [hd, List.isPrefixOf]
      by_cases hc : b.getD at_ 0 = c
      · have hg2 := litP_get (p ++ [c]) r
        rw [List.append_assoc, List.singleton_append, ← hs] at hg2
        have hst : stays ((litP s).getD r.length default) = true := by
          rw [hg2]
          cases r <;> rfl
        have hr : round (litP s) b at_ now.l ⟨[], next.has⟩ last = (⟨[r.length], next.has.set r.length (at_ + 1 + 1)⟩, last) := by
          rw [hn, round_put _ _ _ _ _ _ _ (by rw [hg]; simp) (by rw [hg, decide_eq_true hl, Bool.true_and]; show hset c _ = true; rw [hset_eq, hc]; simp), hg]
          simp only
          rw [put_lone _ _ _ _ _ hst (by have := h2.get r.length; simp only; omega), round]
          rfl
        simp only [hr]
        rw [if_neg (by omega), ih (p ++ [c]) f (at_ + 1) ⟨[r.length], next.has.set r.length (at_ + 1 + 1)⟩ now last (by simp [hs]) (by omega) (by omega) rfl (h2.set _) h1.succ, hc]
        simp only [List.length_cons, beq_self_eq_true, Bool.true_and]
        rw [show at_ + 1 + r.length = at_ + (r.length + 1) by omega]
      · have hr : round (litP s) b at_ now.l ⟨[], next.has⟩ last = (⟨[], next.has⟩, last) := by
          rw [hn, round_no _ _ _ _ _ _ _ (by rw [hg]; simp) (by rw [hg, decide_eq_true hl, Bool.true_and]; show hset c _ = false; rw [hset_eq]; exact beq_eq_false_iff_ne.2 hc), round]
        simp only [hr]
        rw [if_neg (by omega), run_nil, if_neg]
        rw [beq_eq_false_iff_ne.2 (fun e => hc e.symm), Bool.false_and]
        decide
    · have hr : round (litP s) b at_ now.l ⟨[], next.has⟩ last = (⟨[], next.has⟩, last) := by
        rw [hn, round_no _ _ _ _ _ _ _ (by rw [hg]; simp) (by rw [decide_eq_false hl]; rfl), round]
      simp only [hr]
      rw [List.drop_eq_nil_of_le (by omega), run_nil]
      simp

theorem longest_lit (s b : Bytes) (at_ : Nat) (ha : at_ ≤ b.length) : longest (litP s) s.length b at_ = if s.isPrefixOf (b.drop at_) then some (at_ + s.length) else none := by
  have hz : Low (at_ + 1) (zero (litP s)).has := by
    intro a h
    have : a = 0 := by simpa [zero] using List.eq_of_mem_replicate h
    omega
  have hz0 : Low at_ (zero (litP s)).has := by
    intro a h
    have : a = 0 := by simpa [zero] using List.eq_of_mem_replicate h
    omega
  have hg := litP_get [] s
  rw [List.nil_append] at hg
  have hst : stays ((litP s).getD s.length default) = true := by
    rw [hg]
    cases s <;> rfl
  unfold longest
  rw [put_lone _ _ _ _ _ hst (by have := hz0.get s.length; omega)]
  exact run_lit s b s [] _ at_ _ _ none rfl ha (by omega) rfl (hz0.set _) hz

/-- A text stands at a place. -/
def stands (s b : Bytes) (a : Nat) : Bool := s.isPrefixOf (b.drop a)
theorem stands_take (s b : Bytes) (a : Nat) : stands s b a = decide ((b.drop a).take s.length = s) := by
  unfold stands
  rw [Bool.eq_iff_iff, List.isPrefixOf_iff_prefix, decide_eq_true_eq]
  constructor
  · rintro ⟨t, ht⟩
    rw [← ht]
    simp
  · intro h
    exact ⟨(b.drop a).drop s.length, by conv => lhs; lhs; rw [← h]
                                        rw [List.take_append_drop]⟩
theorem stands_le (s b : Bytes) (a : Nat) (ha : a ≤ b.length) (h : stands s b a = true) : a + s.length ≤ b.length := by
  unfold stands at h
  obtain ⟨t, ht⟩ := List.isPrefixOf_iff_prefix.1 h
  have := congrArg List.length ht
  simp at this
  omega

theorem lit_some (s b : Bytes) (f a : Nat) (ha : a ≤ b.length) (h : stands s b a = true) : findF (litP s) s.length b (f + 1) a = some (a, a + s.length) := by
  rw [findF, if_neg (by omega), longest_lit s b a ha]
  unfold stands at h
  rw [if_pos h]
theorem lit_step (s b : Bytes) (f a : Nat) (ha : a ≤ b.length) (h : stands s b a = false) : findF (litP s) s.length b (f + 1) a = findF (litP s) s.length b f (a + 1) := by
  rw [findF, if_neg (by omega), longest_lit s b a ha]
  unfold stands at h
  rw [h]
  rfl
theorem lit_none (s b : Bytes) : ∀ (f a : Nat), b.length < a + s.length → findF (litP s) s.length b f a = none := by
  intro f
  induction f with
  | zero => intro a _; rfl
  | succ f ih =>
    intro a h
    rcases Nat.lt_or_ge b.length a with hl | hl
    · rw [findF, if_pos hl]
    · have hs : stands s b a = false := by
        cases hx : stands s b a with
        | false => rfl
        | true => have := stands_le s b a hl hx; omega
      rw [lit_step s b f a hl hs]
      exact ih (a + 1) (by omega)

end Go.Proofs.YthdkbbkkijdhfaaGreatDoor.Mx
