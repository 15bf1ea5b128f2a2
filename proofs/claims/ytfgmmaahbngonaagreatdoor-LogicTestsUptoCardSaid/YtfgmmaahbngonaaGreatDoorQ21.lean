/-
  Texts of this seat put together: GMx.
-/
import Derived.Test.YtfgmmaahbngonaaGreatDoorQ14

/-
  What package match computes, as plain functions: states, the set of states that a place reaches, the longest place, the first one. No program in sight.
  No condition: definitions, and laws of them.
-/
namespace Go.Proofs.YtfgmmaahbngonaaGreatDoor.Rg.Mx
open Go

abbrev Bytes := Rx.Bytes
abbrev Has := Rx.Has

/-- One state: 0 a byte of a set, 1 to two others, 2 and 3 anchors, 4 over. -/
structure St where
  kind : Nat
  has : Has
  to : Nat
  or : Nat

def no : Has := fun _ => false
instance : Inhabited St := ⟨⟨4, no, 0, 0⟩⟩

/-- A state's target, set. -/
def setTo (L : List St) (i to : Nat) : List St := L.modify i fun s => { s with to := to }

/-- As often as that. -/
def timesF (f : Nat → List St → Nat × List St) : Nat → Nat → List St → Nat × List St
  | 0, at_, L => (at_, L)
  | i + 1, at_, L => timesF f i (f at_ L).1 (f at_ L).2
/-- Or not. -/
def splitsF (f : Nat → List St → Nat × List St) : Nat → Nat → Nat → List St → Nat × List St
  | 0, at_, _, L => (at_, L)
  | i + 1, at_, to, L => splitsF f i (f at_ L).2.length to ((f at_ L).2 ++ [⟨1, no, (f at_ L).1, to⟩])

mutual
/-- Where a node begins, laid ahead of a state; and the states. -/
def lay : Rx.Nd → Nat → List St → Nat × List St
  | .empty, to, L => (to, L)
  | .set h, to, L => (L.length, L ++ [⟨0, h, to, 0⟩])
  | .beg, to, L => (L.length, L ++ [⟨2, no, to, 0⟩])
  | .fin, to, L => (L.length, L ++ [⟨3, no, to, 0⟩])
  | .cat l, to, L => layCat l to L
  | .alt l, to, L => layAlt l to L
  | .rep m most k, to, L =>
    if most < 0 then
      let a := lay k L.length (L ++ [⟨1, no, 0, to⟩])
      let L3 := setTo a.2 L.length a.1
      if 0 < m then timesF (lay k) (m - 1) a.1 L3 else (L.length, L3)
    else
      let a := splitsF (lay k) (most.toNat - m) to to L
      timesF (lay k) m a.1 a.2
/-- All of a list, the last one first. -/
def layCat : List Rx.Nd → Nat → List St → Nat × List St
  | [], to, L => (to, L)
  | k :: r, to, L => lay k (layCat r to L).1 (layCat r to L).2
/-- One of a list. -/
def layAlt : List Rx.Nd → Nat → List St → Nat × List St
  | [], to, L => (to, L)
  | k :: r, to, L => match r with
    | [] => lay k to L
    | _ :: _ =>
      let a := layAlt r to L
      let c := lay k to a.2
      (c.2.length, c.2 ++ [⟨1, no, c.1, a.1⟩])
end

def times (k : Rx.Nd) : Nat → Nat → List St → Nat × List St := timesF (lay k)
def splits (k : Rx.Nd) : Nat → Nat → Nat → List St → Nat × List St := splitsF (lay k)
theorem times_zero (k : Rx.Nd) (at_ : Nat) (L : List St) : times k 0 at_ L = (at_, L) := rfl
theorem times_succ (k : Rx.Nd) (i at_ : Nat) (L : List St) : times k (i + 1) at_ L = times k i (lay k at_ L).1 (lay k at_ L).2 := rfl
theorem splits_zero (k : Rx.Nd) (at_ to : Nat) (L : List St) : splits k 0 at_ to L = (at_, L) := rfl
theorem splits_succ (k : Rx.Nd) (i at_ to : Nat) (L : List St) : splits k (i + 1) at_ to L = splits k i (lay k at_ L).2.length to ((lay k at_ L).2 ++ [⟨1, no, (lay k at_ L).1, to⟩]) := rfl
theorem layAlt_nil (to : Nat) (L : List St) : layAlt [] to L = (to, L) := by rw [layAlt]
theorem layAlt_one (k : Rx.Nd) (to : Nat) (L : List St) : layAlt [k] to L = lay k to L := by rw [layAlt]
theorem layAlt_two (k k2 : Rx.Nd) (r : List Rx.Nd) (to : Nat) (L : List St) : layAlt (k :: k2 :: r) to L = ((lay k to (layAlt (k2 :: r) to L).2).2.length, (lay k to (layAlt (k2 :: r) to L).2).2 ++ [⟨1, no, (lay k to (layAlt (k2 :: r) to L).2).1, (layAlt (k2 :: r) to L).1⟩]) := by rw [layAlt]
theorem lay_rep (m : Nat) (most : Int) (k : Rx.Nd) (to : Nat) (L : List St) : lay (.rep m most k) to L =
    if most < 0 then
      if 0 < m then times k (m - 1) (lay k L.length (L ++ [⟨1, no, 0, to⟩])).1 (setTo (lay k L.length (L ++ [⟨1, no, 0, to⟩])).2 L.length (lay k L.length (L ++ [⟨1, no, 0, to⟩])).1)
      else (L.length, setTo (lay k L.length (L ++ [⟨1, no, 0, to⟩])).2 L.length (lay k L.length (L ++ [⟨1, no, 0, to⟩])).1)
    else times k m (splits k (most.toNat - m) to to L).1 (splits k (most.toNat - m) to to L).2 := by rw [lay]; rfl

/-- A set of states, each once; and when each one was put in, by place. -/
structure Run where
  l : List Nat
  has : List Nat

/-- What a state that is put in adds to those that are to be put in, the last one first. -/
def onto (s : St) (at_ size : Nat) (todo : List Nat) : List Nat :=
  if s.kind = 1 then s.to :: s.or :: todo
  else if s.kind = 2 then (if at_ = 0 then s.to :: todo else todo)
  else if s.kind = 3 then (if at_ = size then s.to :: todo else todo)
  else todo
/-- Is a state one that stays? -/
def stays (s : St) : Bool := s.kind ≠ 1 && s.kind ≠ 2 && s.kind ≠ 3

/-- Puts states in, the first one first, and all that they go to without a byte. -/
def putF (P : List St) (at_ size : Nat) : Nat → List Nat → Run → Option Run
  | _, [], x => some x
  | 0, _ :: _, _ => none
  | f + 1, n :: todo, x =>
    if x.has.getD n 0 = at_ + 1 then putF P at_ size f todo x
    else putF P at_ size f (onto (P.getD n default) at_ size todo) ⟨if stays (P.getD n default) then x.l ++ [n] else x.l, x.has.set n (at_ + 1)⟩

/-- So many steps are enough. -/
def left (at_ : Nat) (h : List Nat) : Nat := h.countP (fun a => a ≠ at_ + 1)
def fuel (P : List St) : Nat := 2 * P.length + 2
def put (P : List St) (x : Run) (first at_ size : Nat) : Run := (putF P at_ size (fuel P) [first] x).getD ⟨[], []⟩

/-- One place's states: those of the next place, and what was found. -/
def round (P : List St) (b : Bytes) (at_ : Nat) : List Nat → Run → Option Nat → Run × Option Nat
  | [], x, last => (x, last)
  | n :: r, x, last =>
    if (P.getD n default).kind = 4 then round P b at_ r x (some at_)
    else if h : at_ < b.length then
      (if (P.getD n default).has b[at_] then round P b at_ r (put P x (P.getD n default).to (at_ + 1) b.length) last else round P b at_ r x last)
    else round P b at_ r x last

/-- From a place on. -/
def run (P : List St) (b : Bytes) : Nat → Nat → Run → Run → Option Nat → Option Nat
  | 0, _, _, _, last => last
  | f + 1, at_, now, next, last =>
    if now.l = [] then last
    else
      let a := round P b at_ now.l ⟨[], next.has⟩ last
      if at_ = b.length then a.2 else run P b f (at_ + 1) a.1 now a.2
def zero (P : List St) : Run := ⟨[], List.replicate P.length 0⟩
/-- The greatest place to which it stands from one. -/
def longest (P : List St) (start : Nat) (b : Bytes) (at_ : Nat) : Option Nat :=
  run P b (b.length - at_ + 1) at_ (put P (zero P) start at_ b.length) (zero P) none
/-- The first place from one on. -/
def findF (P : List St) (start : Nat) (b : Bytes) : Nat → Nat → Option (Nat × Nat)
  | 0, _ => none
  | f + 1, at_ => if b.length < at_ then none else match longest P start b at_ with
    | some to => some (at_, to)
    | none => findF P start b f (at_ + 1)
def find (P : List St) (start : Nat) (b : Bytes) (at_ : Nat) : Option (Nat × Nat) := findF P start b (b.length + 1) at_

/-- All targets are there. -/
def Good (P : List St) : Prop := ∀ s ∈ P, s.to < P.length ∧ s.or < P.length
/-- A set of states is one of a program. -/
def Fits (P : List St) (x : Run) : Prop := x.has.length = P.length ∧ ∀ n ∈ x.l, n < P.length ∧ stays (P.getD n default) = true

theorem good_get {P : List St} (h : Good P) {n : Nat} (hn : n < P.length) : (P.getD n default).to < P.length ∧ (P.getD n default).or < P.length := by
  rw [List.getD_eq_getElem?_getD, List.getElem?_eq_getElem hn]
  exact h _ (List.getElem_mem _)

theorem onto_lt {P : List St} (h : Good P) {n at_ size : Nat} (hn : n < P.length) {todo : List Nat} (ht : ∀ m ∈ todo, m < P.length) : ∀ m ∈ onto (P.getD n default) at_ size todo, m < P.length := by
  have hg := good_get h hn
  intro m hm
  unfold onto at hm
  split at hm
  · rcases List.mem_cons.1 hm with rfl | hm
    · exact hg.1
    · rcases List.mem_cons.1 hm with rfl | hm
      · exact hg.2
      · exact ht _ hm
  · split at hm
    · split at hm
      · rcases List.mem_cons.1 hm with rfl | hm
        · exact hg.1
        · exact ht _ hm
      · exact ht _ hm
    · split at hm
      · split at hm
        · rcases List.mem_cons.1 hm with rfl | hm
          · exact hg.1
          · exact ht _ hm
        · exact ht _ hm
      · exact ht _ hm

theorem onto_len (s : St) (at_ size : Nat) (todo : List Nat) : (onto s at_ size todo).length ≤ todo.length + 2 := by
  unfold onto
  repeat' split
  all_goals simp

theorem left_set (at_ : Nat) : ∀ (h : List Nat) (n : Nat), n < h.length → h.getD n 0 ≠ at_ + 1 → left at_ (h.set n (at_ + 1)) + 1 = left at_ h
  | [], n, hn, _ => absurd hn (Nat.not_lt_zero _)
  | a :: r, 0, _, hne => by
    have : a ≠ at_ + 1 := hne
    simp [left, this]
  | a :: r, n + 1, hn, hne => by
    have ih := left_set at_ r n (by simpa using hn) (by simpa using hne)
    simp only [left, List.set_cons_succ, List.countP_cons] at ih ⊢
    omega

/-- With enough steps it comes to an end, and what came fits. -/
theorem putF_ok (P : List St) (hP : Good P) (at_ size : Nat) : ∀ (f : Nat) (todo : List Nat) (x : Run), (∀ m ∈ todo, m < P.length) → Fits P x → 2 * left at_ x.has + todo.length ≤ f →
    ∃ y, putF P at_ size f todo x = some y ∧ Fits P y := by
  intro f
  induction f with
  | zero =>
    intro todo x _ hx hf
    cases todo with
    | nil => exact ⟨x, by simp [putF], hx⟩
    | cons n r => simp at hf
  | succ f ih =>
    intro todo x ht hx hf
    cases todo with
    | nil => exact ⟨x, by simp [putF], hx⟩
    | cons n r =>
      have hn := ht n (by simp)
      have hr : ∀ m ∈ r, m < P.length := fun m hm => ht m (by simp [hm])
      unfold putF
      split
      · exact ih r x hr hx (by simp at hf; omega)
      · rename_i hne
        have hl := left_set at_ x.has n (by rw [hx.1]; exact hn) hne
        refine ih _ _ (onto_lt hP hn hr) ⟨by simp [hx.1], ?_⟩ ?_
        · intro m hm
          split at hm
          · rename_i hs
            rcases List.mem_append.1 hm with hm | hm
            · exact hx.2 m hm
            · obtain rfl : m = n := by simpa using hm
              exact ⟨hn, hs⟩
          · exact hx.2 m hm
        · have := onto_len (P.getD n default) at_ size r
          simp only [List.length_cons] at hf
          simp only
          omega

theorem left_le (at_ : Nat) (h : List Nat) : left at_ h ≤ h.length := List.countP_le_length

theorem put_ok (P : List St) (hP : Good P) (x : Run) (first at_ size : Nat) (hf : first < P.length) (hx : Fits P x) : putF P at_ size (fuel P) [first] x = some (put P x first at_ size) ∧ Fits P (put P x first at_ size) := by
  obtain ⟨y, hy, hfy⟩ := putF_ok P hP at_ size (fuel P) [first] x (by simpa using hf) hx (by
    have := left_le at_ x.has
    rw [hx.1] at this
    simp only [fuel, List.length_cons, List.length_nil]
    omega)
  unfold put
  rw [hy]
  exact ⟨rfl, hfy⟩

theorem Fits.clear {P : List St} {x : Run} (h : Fits P x) : Fits P ⟨[], x.has⟩ := ⟨h.1, fun n hn => by simp at hn⟩
theorem Fits.zero (P : List St) : Fits P (zero P) := ⟨by simp [Mx.zero], fun n hn => by simp [Mx.zero] at hn⟩

theorem round_ok (P : List St) (hP : Good P) (b : Bytes) (at_ : Nat) : ∀ (l : List Nat) (x : Run) (last : Option Nat), (∀ n ∈ l, n < P.length) → Fits P x → Fits P (round P b at_ l x last).1 := by
  intro l
  induction l with
  | nil => intro x last _ hx; exact hx
  | cons n r ih =>
    intro x last hl hx
    have hr : ∀ m ∈ r, m < P.length := fun m hm => hl m (by simp [hm])
    unfold round
    split
    · exact ih _ _ hr hx
    · split
      · split
        · exact ih _ _ hr (put_ok P hP x _ _ _ (good_get hP (hl n (by simp))).1 hx).2
        · exact ih _ _ hr hx
      · exact ih _ _ hr hx

/-- No anchor is among the states. -/
def Plain (P : List St) : Prop := ∀ s ∈ P, s.kind ≠ 2 ∧ s.kind ≠ 3

theorem plain_get {P : List St} (h : Plain P) (n : Nat) : (P.getD n default).kind ≠ 2 ∧ (P.getD n default).kind ≠ 3 := by
  rw [List.getD_eq_getElem?_getD]
  rcases Nat.lt_or_ge n P.length with hn | hn
  · rw [List.getElem?_eq_getElem hn]
    exact h _ (List.getElem_mem _)
  · rw [List.getElem?_eq_none hn]
    exact ⟨by decide, by decide⟩

/-- A place, further on. -/
def sh (d a : Nat) : Nat := if a = 0 then 0 else a + d
def shR (d : Nat) (x : Run) : Run := ⟨x.l, x.has.map (sh d)⟩

theorem sh_get (d : Nat) (h : List Nat) (n : Nat) : (h.map (sh d)).getD n 0 = sh d (h.getD n 0) := by
  simp only [List.getD_eq_getElem?_getD, List.getElem?_map]
  cases h[n]? <;> rfl
theorem sh_eq (d a at_ : Nat) : sh d a = at_ + d + 1 ↔ a = at_ + 1 := by
  unfold sh
  split <;> omega
theorem sh_next (d at_ : Nat) : sh d (at_ + 1) = at_ + d + 1 := by
  unfold sh
  split <;> omega
theorem sh_zero (d : Nat) (P : List St) : shR d (zero P) = zero P := by simp [shR, zero, sh]

theorem onto_plain {s : St} (h : s.kind ≠ 2 ∧ s.kind ≠ 3) (at_ size at2 size2 : Nat) (todo : List Nat) : onto s at_ size todo = onto s at2 size2 todo := by
  unfold onto
  simp only [h.1, h.2, if_false]

theorem putF_sh (P : List St) (hP : Plain P) (d at_ size size2 : Nat) : ∀ (f : Nat) (todo : List Nat) (x : Run), putF P (at_ + d) size2 f todo (shR d x) = (putF P at_ size f todo x).map (shR d) := by
  intro f
  induction f with
  | zero =>
    intro todo x
    cases todo <;> simp [putF]
  | succ f ih =>
    intro todo x
    cases todo with
    | nil => simp [putF]
    | cons n r =>
      have h1 : (shR d x).has.getD n 0 = sh d (x.has.getD n 0) := sh_get d x.has n
      unfold putF
      rw [h1]
      by_cases h : x.has.getD n 0 = at_ + 1
      · rw [if_pos h, if_pos ((sh_eq d _ at_).2 h)]
        exact ih r x
      · rw [if_neg h, if_neg (fun e => h ((sh_eq d _ at_).1 e)), ← ih, onto_plain (plain_get hP n) (at_ + d) size2 at_ size]
        congr 1
        simp only [shR, List.map_set, sh_next]

theorem put_sh (P : List St) (hP : Plain P) (d at_ size size2 first : Nat) (x : Run) : put P (shR d x) first (at_ + d) size2 = shR d (put P x first at_ size) := by
  unfold put
  rw [putF_sh P hP d at_ size size2]
  cases putF P at_ size (fuel P) [first] x with
  | none => rfl
  | some y => rfl

theorem round_sh (P : List St) (hP : Plain P) (d at_ : Nat) (b c : Bytes) (hlt : at_ < b.length ↔ at_ + d < c.length) (hb : ∀ h1 h2, c[at_ + d]'h1 = b[at_]'h2) : ∀ (l : List Nat) (x : Run) (last : Option Nat),
    round P c (at_ + d) l (shR d x) (last.map (· + d)) = (shR d (round P b at_ l x last).1, (round P b at_ l x last).2.map (· + d)) := by
  intro l
  induction l with
  | nil => intro x last; rfl
  | cons n r ih =>
    intro x last
    unfold round
    by_cases h4 : (P.getD n default).kind = 4
    · rw [if_pos h4, if_pos h4]
      exact ih x (some at_)
    · rw [if_neg h4, if_neg h4]
      by_cases hl : at_ < b.length
      · have hl2 := hlt.1 hl
        rw [dif_pos hl, dif_pos hl2, hb hl2 hl]
        cases (P.getD n default).has b[at_] with
        | false => simp only [Bool.false_eq_true, if_false]; exact ih x last
        | true =>
          simp only [if_true]
          rw [show at_ + d + 1 = at_ + 1 + d by omega, put_sh P hP d (at_ + 1) b.length c.length]
          exact ih _ last
      · rw [dif_neg hl, dif_neg (fun e => hl (hlt.2 e))]
        exact ih x last

theorem sh_clear (d : Nat) (x : Run) : (⟨[], (shR d x).has⟩ : Run) = shR d ⟨[], x.has⟩ := rfl

theorem run_sh (P : List St) (hP : Plain P) (c : UInt8) (b : Bytes) : ∀ (f at_ : Nat) (now next : Run) (last : Option Nat),
    run P (c :: b) f (at_ + 1) (shR 1 now) (shR 1 next) (last.map (· + 1)) = (run P b f at_ now next last).map (· + 1) := by
  intro f
  induction f with
  | zero => intro at_ now next last; rfl
  | succ f ih =>
    intro at_ now next last
    have hr := round_sh P hP 1 at_ b (c :: b) (by simp) (fun h1 h2 => by simp) now.l ⟨[], next.has⟩ last
    unfold run
    by_cases hn : now.l = []
    · rw [if_pos hn, if_pos (show (shR 1 now).l = [] from hn)]
    · rw [if_neg hn, if_neg (show ¬ (shR 1 now).l = [] from hn), sh_clear]
      rw [show (shR 1 now).l = now.l from rfl, hr]
      by_cases he : at_ = b.length
      · simp [he]
      · rw [if_neg he, if_neg (by simp; omega)]
        exact ih _ _ _ _

theorem longest_sh (P : List St) (hP : Plain P) (start : Nat) (c : UInt8) (b : Bytes) (at_ : Nat) : longest P start (c :: b) (at_ + 1) = (longest P start b at_).map (· + 1) := by
  have h := run_sh P hP c b (b.length - at_ + 1) at_ (put P (zero P) start at_ b.length) (zero P) none
  rw [← put_sh P hP 1 at_ b.length (c :: b).length, sh_zero] at h
  unfold longest
  rw [show (c :: b).length - (at_ + 1) + 1 = b.length - at_ + 1 by simp]
  exact h

/-- One byte ahead: one further on. -/
theorem findF_sh (P : List St) (hP : Plain P) (start : Nat) (c : UInt8) (b : Bytes) : ∀ (f at_ x y g : Nat), findF P start b f at_ = some (x, y) → f ≤ g → findF P start (c :: b) g (at_ + 1) = some (x + 1, y + 1) := by
  intro f
  induction f with
  | zero => intro at_ x y g h; simp [findF] at h
  | succ f ih =>
    intro at_ x y g h hg
    obtain ⟨g, rfl⟩ : ∃ k, g = k + 1 := ⟨g - 1, by omega⟩
    unfold findF at h ⊢
    split at h
    · simp at h
    · rename_i hl
      rw [if_neg (by simp; omega), longest_sh P hP]
      cases hx : longest P start b at_ with
      | none =>
        rw [hx] at h
        exact ih _ _ _ _ h (by omega)
      | some z =>
        rw [hx] at h
        simp only [Option.some.injEq, Prod.mk.injEq] at h
        obtain ⟨rfl, rfl⟩ := h
        rfl

/-- What was found stays found, or later. -/
theorem round_last (P : List St) (b c : Bytes) (at_ : Nat) : ∀ (l : List Nat) (x y : Run) (last : Option Nat), (round P b at_ l x last).2 = (round P c at_ l y last).2 := by
  intro l
  induction l with
  | nil => intro x y last; rfl
  | cons n r ih =>
    intro x y last
    unfold round
    split
    · exact ih _ _ _
    · split <;> split <;> (try split) <;> (try split) <;> exact ih _ _ _

theorem round_ge (P : List St) (b : Bytes) (at_ : Nat) : ∀ (l : List Nat) (x : Run) (last : Option Nat), (round P b at_ l x last).2 = some at_ ∨ (round P b at_ l x last).2 = last := by
  intro l
  induction l with
  | nil => intro x last; exact .inr rfl
  | cons n r ih =>
    intro x last
    unfold round
    split
    · rcases ih x (some at_) with h | h
      · exact .inl h
      · exact .inl h
    · split
      · split
        · exact ih _ _
        · exact ih _ _
      · exact ih _ _

theorem run_ge (P : List St) (b : Bytes) : ∀ (f at_ : Nat) (now next : Run) (z : Nat), z ≤ at_ → ∃ y, run P b f at_ now next (some z) = some y ∧ z ≤ y := by
  intro f
  induction f with
  | zero => intro at_ now next z _; exact ⟨z, rfl, Nat.le_refl _⟩
  | succ f ih =>
    intro at_ now next z hz
    unfold run
    split
    · exact ⟨z, rfl, Nat.le_refl _⟩
    · have h := round_ge P b at_ now.l ⟨[], next.has⟩ (some z)
      obtain ⟨q, hq, hq1, hq2⟩ : ∃ q, (round P b at_ now.l ⟨[], next.has⟩ (some z)).2 = some q ∧ z ≤ q ∧ q ≤ at_ := by
        rcases h with h | h
        · exact ⟨at_, h, hz, Nat.le_refl _⟩
        · exact ⟨z, h, Nat.le_refl _, hz⟩
      simp only [hq]
      split
      · exact ⟨q, rfl, hq1⟩
      · obtain ⟨y, hy, hzy⟩ := ih (at_ + 1) (round P b at_ now.l ⟨[], next.has⟩ (some z)).1 now q (by omega)
        exact ⟨y, hy, by omega⟩

theorem sh0 (a : Nat) : sh 0 a = a := by unfold sh; split <;> omega
theorem shR0 (x : Run) : shR 0 x = x := by
  unfold shR
  rw [show (sh 0 : Nat → Nat) = id by funext a; exact sh0 a, List.map_id]
theorem map0 (o : Option Nat) : o.map (· + 0) = o := by cases o <;> rfl

theorem round_more (P : List St) (hP : Plain P) (b more : Bytes) (at_ : Nat) (hl : at_ < b.length) (l : List Nat) (x : Run) (last : Option Nat) : round P (b ++ more) at_ l x last = round P b at_ l x last := by
  have h := round_sh P hP 0 at_ b (b ++ more) (by simp; omega) (fun h1 h2 => by
    show (b ++ more)[at_] = _
    rw [List.getElem_append_left h2]) l x last
  simp only [shR0, map0] at h
  exact h

theorem run_more (P : List St) (hP : Plain P) (b more : Bytes) : ∀ (f at_ : Nat) (now next : Run) (last : Option Nat) (z g : Nat), at_ + f = b.length + 1 → f ≤ g → (∀ y, last = some y → y ≤ at_) →
    run P b f at_ now next last = some z → ∃ y, run P (b ++ more) g at_ now next last = some y ∧ z ≤ y := by
  intro f
  induction f with
  | zero =>
    intro at_ now next last z g _ _ hle h
    have h : last = some z := h
    subst h
    exact run_ge P (b ++ more) g at_ now next z (hle z rfl)
  | succ f ih =>
    intro at_ now next last z g hat hg hle h
    obtain ⟨g, rfl⟩ : ∃ k, g = k + 1 := ⟨g - 1, by omega⟩
    unfold run at h ⊢
    by_cases hn : now.l = []
    · rw [if_pos hn] at h ⊢
      exact ⟨z, h, Nat.le_refl _⟩
    · rw [if_neg hn] at h ⊢
      by_cases he : at_ = b.length
      · simp only [if_pos he] at h
        have h2 := round_last P (b ++ more) b at_ now.l ⟨[], next.has⟩ ⟨[], next.has⟩ last
        rw [h] at h2
        simp only [h2]
        have hz : z ≤ at_ := by
          rcases round_ge P b at_ now.l ⟨[], next.has⟩ last with h3 | h3
          · rw [h] at h3
            exact Nat.le_of_eq (Option.some.inj h3)
          · rw [h] at h3
            exact hle z h3.symm
        split
        · exact ⟨z, rfl, Nat.le_refl _⟩
        · exact run_ge _ _ _ _ _ _ _ (by omega)
      · have hlt : at_ < b.length := by omega
        simp only [if_neg he] at h
        rw [round_more P hP b more at_ hlt]
        simp only
        rw [if_neg (by simp; omega)]
        refine ih _ _ _ _ _ _ (by omega) (by omega) ?_ h
        intro y hy
        rcases round_ge P b at_ now.l ⟨[], next.has⟩ last with h3 | h3
        · rw [hy] at h3
          have := Option.some.inj h3
          omega
        · rw [hy] at h3
          have := hle y h3.symm
          omega

theorem longest_more (P : List St) (hP : Plain P) (start : Nat) (b more : Bytes) (at_ z : Nat) (hat : at_ ≤ b.length) (h : longest P start b at_ = some z) : ∃ y, longest P start (b ++ more) at_ = some y ∧ z ≤ y := by
  unfold longest at h ⊢
  have h2 := put_sh P hP 0 at_ b.length (b ++ more).length start (zero P)
  simp only [shR0, Nat.add_zero] at h2
  rw [h2]
  exact run_more P hP b more _ _ _ _ _ _ _ (by omega) (by simp; omega) (fun y hy => by simp at hy) h

/-- Others behind: as long at least. -/
theorem findF_more (P : List St) (hP : Plain P) (start : Nat) (b more : Bytes) : ∀ (f at_ x y g : Nat), findF P start b f at_ = some (x, y) → f ≤ g →
    ∃ u v, findF P start (b ++ more) g at_ = some (u, v) ∧ at_ ≤ x ∧ u ≤ x ∧ (u < x ∨ y ≤ v) := by
  intro f
  induction f with
  | zero => intro at_ x y g h; simp [findF] at h
  | succ f ih =>
    intro at_ x y g h hg
    obtain ⟨g, rfl⟩ : ∃ k, g = k + 1 := ⟨g - 1, by omega⟩
    unfold findF at h ⊢
    split at h
    · simp at h
    · rename_i hl
      rw [if_neg (by simp; omega)]
      cases hx : longest P start b at_ with
      | none =>
        rw [hx] at h
        obtain ⟨u, v, h1, h2, h3, h4⟩ := ih _ _ _ _ h (show f ≤ g by omega)
        cases hy : longest P start (b ++ more) at_ with
        | none => exact ⟨u, v, h1, by omega, h3, h4⟩
        | some q => exact ⟨at_, q, rfl, by omega, by omega, .inl (by omega)⟩
      | some z =>
        rw [hx] at h
        simp only [Option.some.injEq, Prod.mk.injEq] at h
        obtain ⟨rfl, rfl⟩ := h
        obtain ⟨q, hq, hle⟩ := longest_more P hP start b more at_ z (by omega) hx
        rw [hq]
        exact ⟨at_, q, rfl, Nat.le_refl _, Nat.le_refl _, .inr hle⟩

end Go.Proofs.YtfgmmaahbngonaaGreatDoor.Rg.Mx
