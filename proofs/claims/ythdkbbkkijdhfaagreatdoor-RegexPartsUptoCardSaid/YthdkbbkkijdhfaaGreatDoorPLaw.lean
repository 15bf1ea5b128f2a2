/-
  The plain law of RegexParts: an expression that is read whole is read alike ahead of a closing parenthesis; two in parentheses are put together. No program in sight.
  Condition: no class and the like is in it.
-/
import Derived.Test.YthdkbbkkijdhfaaGreatDoorSpec
namespace Go.Proofs.YthdkbbkkijdhfaaGreatDoor.Rx
open Go

/-- What begins a class, or the like, stands in a text. -/
def cl : Bytes → Bool
  | a :: b :: r => (a == 91 && (b == 58 || (b == 46 || b == 61))) || cl (b :: r)
  | _ => false

theorem cl_tail {c : UInt8} {r : Bytes} (h : cl (c :: r) = false) : cl r = false := by
  cases r with
  | nil => rfl
  | cons d r => simp only [cl, Bool.or_eq_false_iff] at h; exact h.2

/-- The first byte, and those behind it. -/
def uncons : Bytes → Option (UInt8 × Bytes)
  | [] => none
  | c :: r => some (c, r)

theorem parts_stop (f : Nat) (first : Bool) (h : Has) (s : Bytes) (hc : (!first && s.head? == some 93) = true) : parts (f + 1) first h s = some (h, s) := by
  rw [parts, if_pos hc]
theorem parts_go (f : Nat) (first : Bool) (h : Has) (s : Bytes) (hc : (!first && s.head? == some 93) = false) (hn : s ≠ []) : parts (f + 1) first h s = (part h s).bind fun x => parts f false x.1 x.2 := by
  rw [parts, if_neg (by rw [hc]; decide), if_neg hn]
  cases part h s <;> rfl

/-- The end of a text. -/
def Suf (s1 s : Bytes) : Prop := ∃ u, s = u ++ s1
theorem Suf.refl (s : Bytes) : Suf s s := ⟨[], rfl⟩
theorem Suf.trans {a b c : Bytes} (h : Suf a b) (h2 : Suf b c) : Suf a c := by
  obtain ⟨u, rfl⟩ := h
  obtain ⟨v, rfl⟩ := h2
  exact ⟨v ++ u, by simp⟩
theorem Suf.tail (c : UInt8) (r : Bytes) : Suf r (c :: r) := ⟨[c], rfl⟩
theorem cl_suf {s1 s : Bytes} (h : Suf s1 s) (hs : cl s = false) : cl s1 = false := by
  obtain ⟨u, rfl⟩ := h
  induction u with
  | nil => exact hs
  | cons c u ih => exact ih (cl_tail hs)

section
variable {e t : Bytes} (he : e = 41 :: t)
include he

/-! ## Tokens of one sign -/

theorem take_ext (k : UInt8) (hk : k ≠ 41) (s : Bytes) : take [k] (s ++ e) = (take [k] s).map (· ++ e) := by
  subst he
  cases s with
  | nil => simp [take, List.isPrefixOf, hk]
  | cons c r =>
    unfold take
    by_cases h : k = c
    · subst h; simp [List.isPrefixOf]
    · simp [List.isPrefixOf, h]
theorem pre_ext (k : UInt8) (hk : k ≠ 41) (s : Bytes) : ([k] : Bytes).isPrefixOf (s ++ e) = ([k] : Bytes).isPrefixOf s := by
  subst he
  cases s with
  | nil => simp [List.isPrefixOf, hk]
  | cons c r => simp [List.isPrefixOf]
theorem digits_ext (s : Bytes) : (s ++ e).takeWhile digit = s.takeWhile digit ∧ (s ++ e).dropWhile digit = s.dropWhile digit ++ e := by
  subst he
  induction s with
  | nil =>
    have : digit 41 = false := by decide
    simp [List.takeWhile, List.dropWhile, this]
  | cons c r ih =>
    simp only [List.cons_append, List.takeWhile_cons, List.dropWhile_cons]
    cases digit c with
    | true => simp [ih.1, ih.2]
    | false => simp
theorem number_ext (s : Bytes) : number (s ++ e) = (number s).map fun x => (x.1, x.2 ++ e) := by
  unfold number
  rw [(digits_ext he s).1, (digits_ext he s).2]
  simp only
  split <;> simp

theorem times_ext (s : Bytes) : times true (s ++ e) = (times true s).map fun x => (x.1, x.2 ++ e) := by
  unfold times
  simp only [if_true]
  rw [take_ext he 42 (by decide), take_ext he 43 (by decide), take_ext he 63 (by decide), take_ext he 123 (by decide)]
  cases take [42] s with
  | some r => rfl
  | none =>
    cases take [43] s with
    | some r => rfl
    | none =>
      cases take [63] s with
      | some r => rfl
      | none =>
        cases take [123] s with
        | none => rfl
        | some r =>
          simp only [Option.map_some, Option.map_none]
          rw [number_ext he]
          cases number r with
          | none => rfl
          | some x =>
            obtain ⟨m, r1⟩ := x
            simp only [Option.map_some]
            rw [take_ext he 44 (by decide)]
            cases take [44] r1 with
            | none =>
              simp only [Option.map_none]
              rw [take_ext he 125 (by decide)]
              cases take [125] r1 <;> rfl
            | some r2 =>
              simp only [Option.map_some]
              rw [pre_ext he 125 (by decide), take_ext he 125 (by decide), number_ext he]
              split
              · cases take [125] r2 <;> rfl
              · cases number r2 with
                | none => rfl
                | some y =>
                  obtain ⟨n, r3⟩ := y
                  simp only [Option.map_some]
                  split
                  · rfl
                  · rw [take_ext he 125 (by decide)]
                    cases take [125] r3 <;> rfl

theorem piece_ext (n : Nd) (a : Bool) (s : Bytes) : piece true n a (s ++ e) = (piece true n a s).map fun x => (x.1, x.2 ++ e) := by
  unfold piece
  rw [times_ext he]
  cases times true s with
  | none => rfl
  | some x =>
    obtain ⟨o, s1⟩ := x
    cases o with
    | none => rfl
    | some mm =>
      obtain ⟨m, most⟩ := mm
      simp only [Option.map_some]
      rw [times_ext he]
      cases times true s1 with
      | none => rfl
      | some y =>
        obtain ⟨o2, s2⟩ := y
        cases o2 with
        | none => simp only [Option.map_some]; split <;> rfl
        | some _ => rfl

/-! ## Brackets without classes -/

theorem named_none {k : UInt8} (hk : k = 46 ∨ k = 61) (s : Bytes) (h : cl s = false) : named k s = none ∧ named k (s ++ e) = none := by
  subst he
  have h1 : ∀ (x y : UInt8) (u : Bytes), (x = 91 → y ≠ k) → named k (x :: y :: u) = none := by
    intro x y u hxy
    unfold named
    split
    · rename_i a b c d f r heq
      simp only [List.cons.injEq] at heq
      obtain ⟨rfl, rfl, -⟩ := heq
      rw [if_neg (fun hh => hxy hh.1 hh.2.1)]
    · rfl
  match s with
  | [] =>
    refine ⟨rfl, ?_⟩
    unfold named
    split
    · rename_i a b c d f r heq
      simp only [List.nil_append, List.cons.injEq] at heq
      rw [if_neg]
      rintro ⟨h2, -⟩
      rw [← heq.1] at h2
      exact absurd h2 (by decide)
    · rfl
  | [x] =>
    exact ⟨rfl, h1 x 41 t fun _ => by rcases hk with rfl | rfl <;> decide⟩
  | x :: y :: u =>
    simp only [cl, Bool.or_eq_false_iff, Bool.and_eq_false_iff, beq_eq_false_iff_ne] at h
    have h2 : x = 91 → y ≠ k := fun hx => by
      rcases h.1 with h3 | h3
      · exact absurd hx h3
      · rcases hk with rfl | rfl
        · exact h3.2.1
        · exact h3.2.2
    exact ⟨h1 x y u h2, h1 x y (u ++ 41 :: t) h2⟩

theorem cls_none (h : Has) (s : Bytes) (hs : cl s = false) : cls h s = some none ∧ cls h (s ++ e) = some none := by
  subst he
  have h1 : ∀ (x y : UInt8) (u : Bytes), (x = 91 → y ≠ 58) → cls h (x :: y :: u) = some none := by
    intro x y u hxy
    have : take [91, 58] (x :: y :: u) = none := by
      unfold take
      rw [if_neg]
      intro hp
      simp [List.isPrefixOf] at hp
      exact hxy hp.1.symm hp.2.symm
    unfold cls
    rw [this]
  match s with
  | [] =>
    refine ⟨rfl, ?_⟩
    have : take [91, 58] ([] ++ 41 :: t) = none := by simp [take, List.isPrefixOf]
    unfold cls
    rw [this]
  | [x] =>
    refine ⟨?_, h1 x 41 t fun _ => by decide⟩
    have : take [91, 58] [x] = none := by simp [take, List.isPrefixOf]
    unfold cls
    rw [this]
  | x :: y :: u =>
    simp only [cl, Bool.or_eq_false_iff, Bool.and_eq_false_iff, beq_eq_false_iff_ne] at hs
    have h2 : x = 91 → y ≠ 58 := fun hx => by
      rcases hs.1 with h3 | h3
      · exact absurd hx h3
      · exact h3.1
    exact ⟨h1 x y u h2, h1 x y (u ++ 41 :: t) h2⟩

theorem upper_cl (s : Bytes) (hs : cl s = false) : upper s = uncons s ∧ upper (s ++ e) = uncons (s ++ e) := by
  have h1 := named_none he (.inl rfl) s hs
  have h2 := named_none he (.inr rfl) s hs
  unfold upper
  rw [h1.1, h1.2, h2.1, h2.2]
  constructor
  · cases s <;> rfl
  · cases s ++ e <;> rfl
theorem lower_cl (s : Bytes) (hs : cl s = false) : lower s = uncons s ∧ lower (s ++ e) = uncons (s ++ e) := by
  have h1 := named_none he (.inl rfl) s hs
  unfold lower
  rw [h1.1, h1.2]
  constructor
  · cases s <;> rfl
  · cases s ++ e <;> rfl

theorem rangeOf_ext (c : UInt8) (r : Bytes) (hr : r ≠ [45]) (hs : cl r = false) : rangeOf c (r ++ e) = (rangeOf c r).map (fun x => (x.1, x.2 ++ e)) ∧ ∀ d r2, rangeOf c r = some (d, r2) → Suf r2 r := by
  have hi : isRange (r ++ e) = isRange r := by
    subst he
    unfold isRange
    match r with
    | [] => simp
    | [x] =>
      have hx : ¬ x = 45 := fun h => hr (by rw [h])
      simp [hx]
    | x :: y :: u => simp
  unfold rangeOf
  rw [hi]
  cases hir : isRange r with
  | false =>
    simp only [Bool.false_eq_true, if_false]
    refine ⟨rfl, fun d r2 h => ?_⟩
    simp only [Option.some.injEq, Prod.mk.injEq] at h
    rw [← h.2]
    exact Suf.refl _
  | true =>
    simp only [if_true]
    match r, hs, hir with
    | [], _, hir => simp [isRange] at hir
    | [x], _, hir => simp [isRange] at hir
    | x :: y :: u, hs, _ =>
      have hu := upper_cl he (y :: u) (cl_tail hs)
      have e1 : (x :: y :: u ++ e).tail = (y :: u) ++ e := rfl
      have e2 : (x :: y :: u).tail = y :: u := rfl
      rw [e1, e2, hu.1, hu.2]
      simp only [List.cons_append, uncons]
      constructor
      · split <;> rfl
      · intro d r2 h
        split at h
        · cases h
        · simp only [Option.some.injEq, Prod.mk.injEq] at h
          rw [← h.2]
          exact (Suf.tail y u).trans (Suf.tail x _)

theorem part_ext (h h2 : Has) (s s2 : Bytes) (hs : cl s = false) (hp : part h s = some (h2, s2)) (hne : s2 ≠ [45]) : part h (s ++ e) = some (h2, s2 ++ e) ∧ Suf s2 s := by
  have hc := cls_none he h s hs
  have hn := named_none he (.inr rfl) s hs
  have hl := lower_cl he s hs
  unfold part at hp ⊢
  rw [hc.1, hn.1, hl.1] at hp
  rw [hc.2, hn.2, hl.2]
  cases s with
  | nil => cases hp
  | cons c r =>
    simp only [List.cons_append, uncons] at hp ⊢
    have hr : r ≠ [45] := by
      rintro rfl
      have : rangeOf c [45] = some (c, [45]) := by simp [rangeOf, isRange]
      rw [this] at hp
      simp only [Option.some.injEq, Prod.mk.injEq] at hp
      exact hne hp.2.symm
    have hx := rangeOf_ext he c r hr (cl_tail hs)
    rw [hx.1]
    cases hro : rangeOf c r with
    | none => rw [hro] at hp; cases hp
    | some y =>
      obtain ⟨d, r2⟩ := y
      rw [hro] at hp
      simp only [Option.some.injEq, Prod.mk.injEq] at hp
      obtain ⟨rfl, rfl⟩ := hp
      exact ⟨rfl, (hx.2 d _ hro).trans (Suf.tail c r)⟩

omit he in
theorem parts_dash (f : Nat) (h : Has) : parts f false h [45] = none := by
  cases f with
  | zero => rfl
  | succ f =>
    have hp : ∃ h2, part h [45] = some (h2, []) := ⟨_, rfl⟩
    obtain ⟨h2, hp⟩ := hp
    rw [parts, hp]
    simp only [Bool.not_false, Bool.true_and, List.head?_cons]
    rw [if_neg (by decide), if_neg (by simp)]
    cases f with
    | zero => rfl
    | succ f => rw [parts]; simp

theorem parts_ext : ∀ (f : Nat) (first : Bool) (h h2 : Has) (s s2 : Bytes), cl s = false → parts f first h s = some (h2, s2) → parts f first h (s ++ e) = some (h2, s2 ++ e) ∧ Suf s2 s := by
  intro f
  induction f with
  | zero => intro first h h2 s s2 _ hp; cases hp
  | succ f ih =>
    intro first h h2 s s2 hs hp
    cases s with
    | nil => rw [parts] at hp; simp at hp
    | cons c r =>
      cases hf : (!first && (c :: r).head? == some 93) with
      | true =>
        rw [parts_stop _ _ _ _ hf] at hp
        rw [parts_stop _ _ _ _ (show (!first && ((c :: r) ++ e).head? == some 93) = true from hf)]
        simp only [Option.some.injEq, Prod.mk.injEq] at hp
        obtain ⟨rfl, rfl⟩ := hp
        exact ⟨rfl, Suf.refl _⟩
      | false =>
        rw [parts_go _ _ _ _ hf (by simp)] at hp
        rw [parts_go _ _ _ _ (show (!first && ((c :: r) ++ e).head? == some 93) = false from hf) (by simp)]
        cases hq : part h (c :: r) with
        | none => rw [hq] at hp; cases hp
        | some y =>
          obtain ⟨h3, s3⟩ := y
          rw [hq] at hp
          simp only [Option.bind_some] at hp
          have hne : s3 ≠ [45] := by
            rintro rfl
            rw [parts_dash] at hp
            cases hp
          have hx := part_ext he h h3 (c :: r) s3 hs hq hne
          rw [hx.1]
          simp only [Option.bind_some]
          have hy := ih false h3 h2 s3 s2 (cl_suf hx.2 hs) hp
          exact ⟨hy.1, hy.2.trans hx.2⟩

omit he in
theorem parts_mono : ∀ (f g : Nat) (first : Bool) (h : Has) (s : Bytes) (x : Has × Bytes), f ≤ g → parts f first h s = some x → parts g first h s = some x := by
  intro f
  induction f with
  | zero => intro g first h s x _ hp; cases hp
  | succ f ih =>
    intro g first h s x hg hp
    obtain ⟨g, rfl⟩ : ∃ k, g = k + 1 := ⟨g - 1, by omega⟩
    rw [parts] at hp ⊢
    split
    · rename_i hc
      rw [if_pos hc] at hp
      exact hp
    · rename_i hc
      rw [if_neg hc] at hp
      split
      · rename_i hn
        rw [if_pos hn] at hp
        exact hp
      · rename_i hn
        rw [if_neg hn] at hp
        cases hq : part h s with
        | none => rw [hq] at hp; cases hp
        | some y =>
          rw [hq] at hp
          exact ih g false y.1 y.2 x (by omega) hp

theorem bracket_ext (fold : Bool) (n : Nd) (s s2 : Bytes) (hs : cl s = false) (hb : bracket fold s = some (n, s2)) : bracket fold (s ++ e) = some (n, s2 ++ e) ∧ Suf s2 s := by
  have hnot : ((s ++ e).head? == some 94) = (s.head? == some 94) := by
    subst he
    cases s with
    | nil => simp
    | cons c r => simp
  unfold bracket at hb ⊢
  simp only at hb ⊢
  rw [hnot]
  generalize (s.head? == some 94) = not at *
  have hs1 : Suf (if not then s.tail else s) s := by
    cases not with
    | false => exact Suf.refl _
    | true =>
      cases s with
      | nil => exact Suf.refl _
      | cons c r => exact Suf.tail c r
  have happ : (if not then (s ++ e).tail else s ++ e) = (if not then s.tail else s) ++ e ∨ s = [] := by
    cases s with
    | nil => exact .inr rfl
    | cons c r => cases not <;> exact .inl rfl
  rcases happ with happ | rfl
  · rw [happ]
    generalize (if not then s.tail else s) = s1 at *
    cases hp : parts (s1.length + 1) true (fun _ => false) s1 with
    | none => rw [hp] at hb; cases hb
    | some y =>
      obtain ⟨h, s3⟩ := y
      rw [hp] at hb
      simp only at hb
      have hx := parts_ext he _ _ _ _ _ _ (cl_suf hs1 hs) hp
      rw [parts_mono _ ((s1 ++ e).length + 1) _ _ _ _ (by simp) hx.1]
      simp only
      rw [take_ext he 93 (by decide)]
      cases ht : take [93] s3 with
      | none => rw [ht] at hb; cases hb
      | some s4 =>
        rw [ht] at hb
        simp only [Option.some.injEq, Prod.mk.injEq] at hb
        obtain ⟨rfl, rfl⟩ := hb
        refine ⟨rfl, ?_⟩
        have h4 : Suf s4 s3 := by
          unfold take at ht
          split at ht
          · simp only [Option.some.injEq] at ht
            exact ⟨s3.take 1, by rw [← ht]; exact (List.take_append_drop 1 s3).symm⟩
          · cases ht
        exact h4.trans (hx.2.trans hs1)
  · exfalso
    cases not <;> simp [parts] at hb

end

end Go.Proofs.YthdkbbkkijdhfaaGreatDoor.Rx
