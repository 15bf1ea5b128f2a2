/-
  The plain law of RegexParts: whole expressions ahead of a closing parenthesis; two in parentheses. No program in sight.
  Condition: no class and the like is in them.
-/
import Derived.Test.YthdkbbkkijdhfaaGreatDoorPLaw
namespace Go.Proofs.YthdkbbkkijdhfaaGreatDoor.Rx
open Go

theorem take_suf {k : Bytes} {s r : Bytes} (h : take k s = some r) : Suf r s := by
  unfold take at h
  split at h
  · simp only [Option.some.injEq] at h
    exact ⟨s.take k.length, by rw [← h]; exact (List.take_append_drop k.length s).symm⟩
  · cases h
theorem number_suf {s r : Bytes} {m : Nat} (h : number s = some (m, r)) : Suf r s := by
  unfold number at h
  simp only at h
  split at h
  · simp only [Option.some.injEq, Prod.mk.injEq] at h
    exact ⟨s.takeWhile digit, by rw [← h.2]; exact List.takeWhile_append_dropWhile.symm⟩
  · cases h
theorem times_suf {s r : Bytes} {o : Option (Nat × Int)} (h : times true s = some (o, r)) : Suf r s := by
  unfold times at h
  simp only [if_true] at h
  cases h1 : take [42] s with
  | some r1 =>
    rw [h1] at h
    simp only [Option.some.injEq, Prod.mk.injEq] at h
    rw [← h.2]; exact take_suf h1
  | none =>
    rw [h1] at h
    simp only at h
    cases h2 : take [43] s with
    | some r1 =>
      rw [h2] at h
      simp only [Option.some.injEq, Prod.mk.injEq] at h
      rw [← h.2]; exact take_suf h2
    | none =>
      rw [h2] at h
      simp only at h
      cases h3 : take [63] s with
      | some r1 =>
        rw [h3] at h
        simp only [Option.some.injEq, Prod.mk.injEq] at h
        rw [← h.2]; exact take_suf h3
      | none =>
        rw [h3] at h
        simp only at h
        cases h4 : take [123] s with
        | none =>
          rw [h4] at h
          simp only [Option.some.injEq, Prod.mk.injEq] at h
          rw [← h.2]; exact Suf.refl _
        | some r0 =>
          rw [h4] at h
          simp only at h
          cases h5 : number r0 with
          | none => rw [h5] at h; cases h
          | some x =>
            obtain ⟨m, r1⟩ := x
            rw [h5] at h
            simp only at h
            have hs1 := (number_suf h5).trans (take_suf h4)
            cases h6 : take [44] r1 with
            | none =>
              rw [h6] at h
              simp only at h
              cases h7 : take [125] r1 with
              | none => rw [h7] at h; cases h
              | some r2 =>
                rw [h7] at h
                simp only [Option.map_some, Option.some.injEq, Prod.mk.injEq] at h
                rw [← h.2]; exact (take_suf h7).trans hs1
            | some r2 =>
              rw [h6] at h
              simp only at h
              have hs2 := (take_suf h6).trans hs1
              split at h
              · cases h7 : take [125] r2 with
                | none => rw [h7] at h; cases h
                | some r3 =>
                  rw [h7] at h
                  simp only [Option.map_some, Option.some.injEq, Prod.mk.injEq] at h
                  rw [← h.2]; exact (take_suf h7).trans hs2
              · cases h7 : number r2 with
                | none => rw [h7] at h; cases h
                | some y =>
                  obtain ⟨n, r3⟩ := y
                  rw [h7] at h
                  simp only at h
                  split at h
                  · cases h
                  · cases h8 : take [125] r3 with
                    | none => rw [h8] at h; cases h
                    | some r4 =>
                      rw [h8] at h
                      simp only [Option.map_some, Option.some.injEq, Prod.mk.injEq] at h
                      rw [← h.2]; exact (take_suf h8).trans ((number_suf h7).trans hs2)
theorem piece_suf {n n2 : Nd} {a : Bool} {s r : Bytes} (h : piece true n a s = some (n2, r)) : Suf r s := by
  unfold piece at h
  cases h1 : times true s with
  | none => rw [h1] at h; cases h
  | some x =>
    obtain ⟨o, s1⟩ := x
    rw [h1] at h
    have hs1 := times_suf h1
    cases o with
    | none =>
      simp only [Option.some.injEq, Prod.mk.injEq] at h
      rw [← h.2]; exact hs1
    | some mm =>
      simp only at h
      cases h2 : times true s1 with
      | none => rw [h2] at h; cases h
      | some y =>
        obtain ⟨o2, s2⟩ := y
        rw [h2] at h
        cases o2 with
        | some _ => cases h
        | none =>
          simp only at h
          split at h
          · cases h
          · simp only [Option.some.injEq, Prod.mk.injEq] at h
            rw [← h.2]; exact (times_suf h2).trans hs1

/-- The pieces of the three readers. -/
theorem branches_def (fold : Bool) (f : Nat) (s : Bytes) : branches fold (f + 1) s = (branch fold f s).bind fun x => if x.1 = [] then none else match take [124] x.2 with
    | none => some ([joinN .cat x.1], x.2)
    | some s2 => (branches fold f s2).map fun y => (joinN .cat x.1 :: y.1, y.2) := by
  rw [branches]
  cases branch fold f s with
  | none => rfl
  | some x =>
    obtain ⟨l, s1⟩ := x
    cases l with
    | nil => rfl
    | cons a b =>
      simp only [Option.bind_some]
      rw [if_neg (by simp)]
      cases take [124] s1 <;> rfl
def stop (s : Bytes) : Bool := s == [] || (s.head? == some 124 || s.head? == some 41)
def anch (s : Bytes) : Bool := s.head? == some 94 || s.head? == some 36
theorem branch_stop (fold : Bool) (f : Nat) (s : Bytes) (h : stop s = true) : branch fold (f + 1) s = some ([], s) := by
  rw [branch, if_pos]
  simpa [stop] using h
theorem branch_go (fold : Bool) (f : Nat) (s : Bytes) (h : stop s = false) : branch fold (f + 1) s = (atom fold f s).bind fun x => (piece true x.1 (anch s) x.2).bind fun y => (branch fold f y.2).map fun z => (y.1 :: z.1, z.2) := by
  rw [branch, if_neg]
  · cases atom fold f s with
    | none => rfl
    | some x =>
      simp only [Option.bind_some]
      unfold anch
      cases piece true x.1 (s.head? == some 94 || s.head? == some 36) x.2 with
      | none => rfl
      | some y => rfl
  · intro hh
    have : stop s = true := by simpa [stop] using hh
    rw [this] at h
    cases h
/-- An atom by its first byte; the inner ones as told. -/
def atomBy (fold : Bool) (inner : Bytes → Option (List Nd × Bytes)) (c : UInt8) (r : Bytes) : Option (Nd × Bytes) :=
  if c = 40 then (inner r).bind fun x => (take [41] x.2).map fun s2 => (joinN .alt x.1, s2)
  else if c = 91 then bracket fold r
  else if c = 46 then some (dot, r)
  else if c = 94 then some (.beg, r)
  else if c = 36 then some (.fin, r)
  else if c = 92 then escaped fold [] r
  else if c = 42 ∨ c = 43 ∨ c = 63 ∨ c = 123 then none
  else some (one fold c, r)
theorem atom_def (fold : Bool) (f : Nat) (c : UInt8) (r : Bytes) : atom fold (f + 1) (c :: r) = atomBy fold (branches fold f) c r := by
  rw [atom]
  unfold atomBy
  split
  · cases branches fold f r <;> rfl
  · rfl
theorem atom_nil (fold : Bool) (f : Nat) : atom fold f [] = none := by
  cases f with
  | zero => rfl
  | succ f => rw [atom]

section
variable {e t : Bytes} (he : e = 41 :: t)
include he

omit he in
theorem take41_ext {s r : Bytes} (h : take [41] s = some r) : take [41] (s ++ e) = some (r ++ e) := by
  cases s with
  | nil => simp [take] at h
  | cons c u =>
    unfold take at h ⊢
    by_cases hc : 41 = c
    · subst hc
      simp [List.isPrefixOf] at h ⊢
      rw [h]
    · simp [List.isPrefixOf, hc] at h
omit he in
theorem escaped_ext {fold : Bool} {no s r : Bytes} {n : Nd} (h : escaped fold no s = some (n, r)) : escaped fold no (s ++ e) = some (n, r ++ e) ∧ Suf r s := by
  cases s with
  | nil => cases h
  | cons c u =>
    unfold escaped at h ⊢
    simp only [List.cons_append] at h ⊢
    split at h
    · cases h
    · rename_i hc
      rw [if_neg hc]
      simp only [Option.some.injEq, Prod.mk.injEq] at h
      obtain ⟨rfl, rfl⟩ := h
      exact ⟨rfl, Suf.tail c _⟩
omit he in
theorem stop_ext (s : Bytes) (h : s ≠ []) : stop (s ++ e) = stop s := by
  cases s with
  | nil => exact absurd rfl h
  | cons c r => simp [stop]
omit he in
theorem anch_ext (s : Bytes) (h : s ≠ []) : anch (s ++ e) = anch s := by
  cases s with
  | nil => exact absurd rfl h
  | cons c r => simp [anch]

theorem atomBy_ext (fold : Bool) (inner : Bytes → Option (List Nd × Bytes)) (hin : ∀ s l s1, cl s = false → inner s = some (l, s1) → inner (s ++ e) = some (l, s1 ++ e) ∧ Suf s1 s) (c : UInt8) (r s1 : Bytes) (n : Nd) (hs : cl (c :: r) = false)
    (h : atomBy fold inner c r = some (n, s1)) : atomBy fold inner c (r ++ e) = some (n, s1 ++ e) ∧ Suf s1 (c :: r) := by
  unfold atomBy at h ⊢
  split
  · rename_i hc
    rw [if_pos hc] at h
    cases hi : inner r with
    | none => rw [hi] at h; cases h
    | some x =>
      obtain ⟨l, s2⟩ := x
      rw [hi] at h
      simp only [Option.bind_some] at h
      have hx := hin r l s2 (cl_tail hs) hi
      rw [hx.1]
      simp only [Option.bind_some]
      cases ht : take [41] s2 with
      | none => rw [ht] at h; cases h
      | some s3 =>
        rw [ht] at h
        simp only [Option.map_some, Option.some.injEq, Prod.mk.injEq] at h
        obtain ⟨rfl, rfl⟩ := h
        rw [take41_ext ht]
        exact ⟨rfl, (take_suf ht).trans (hx.2.trans (Suf.tail c r))⟩
  · rename_i h1
    rw [if_neg h1] at h
    split
    · rename_i hc
      rw [if_pos hc] at h
      have := bracket_ext he fold n r s1 (cl_tail hs) h
      exact ⟨this.1, this.2.trans (Suf.tail c r)⟩
    · rename_i h2
      rw [if_neg h2] at h
      have lone : ∀ m : Nd, some (m, r) = some (n, s1) → some (m, r ++ e) = some (n, s1 ++ e) ∧ Suf s1 (c :: r) := by
        intro m hm
        simp only [Option.some.injEq, Prod.mk.injEq] at hm
        obtain ⟨rfl, rfl⟩ := hm
        exact ⟨rfl, Suf.tail c _⟩
      split
      · rename_i hc; rw [if_pos hc] at h; exact lone _ h
      · rename_i h3
        rw [if_neg h3] at h
        split
        · rename_i hc; rw [if_pos hc] at h; exact lone _ h
        · rename_i h4
          rw [if_neg h4] at h
          split
          · rename_i hc; rw [if_pos hc] at h; exact lone _ h
          · rename_i h5
            rw [if_neg h5] at h
            split
            · rename_i hc
              rw [if_pos hc] at h
              have := escaped_ext (e := e) h
              exact ⟨this.1, this.2.trans (Suf.tail c r)⟩
            · rename_i h6
              rw [if_neg h6] at h
              split
              · rename_i hc; rw [if_pos hc] at h; cases h
              · rename_i h7
                rw [if_neg h7] at h
                exact lone _ h

/-- An expression that is read, read alike ahead of a closing parenthesis. -/
theorem ext_all (fold : Bool) : ∀ f : Nat,
    (∀ s l s1, cl s = false → branches fold f s = some (l, s1) → branches fold f (s ++ e) = some (l, s1 ++ e) ∧ Suf s1 s) ∧
    (∀ s l s1, cl s = false → branch fold f s = some (l, s1) → branch fold f (s ++ e) = some (l, s1 ++ e) ∧ Suf s1 s) ∧
    (∀ s n s1, cl s = false → atom fold f s = some (n, s1) → atom fold f (s ++ e) = some (n, s1 ++ e) ∧ Suf s1 s) := by
  intro f
  induction f with
  | zero =>
    refine ⟨fun s l s1 _ h => ?_, fun s l s1 _ h => ?_, fun s n s1 _ h => ?_⟩
    · rw [branches] at h; cases h
    · rw [branch] at h; cases h
    · rw [atom] at h; cases h
  | succ f ih =>
    obtain ⟨ihbs, ihb, iha⟩ := ih
    refine ⟨fun s l s1 hs h => ?_, fun s l s1 hs h => ?_, fun s n s1 hs h => ?_⟩
    · rw [branches_def] at h ⊢
      cases hb : branch fold f s with
      | none => rw [hb] at h; cases h
      | some x =>
        obtain ⟨lb, s2⟩ := x
        rw [hb] at h
        simp only [Option.bind_some] at h
        have hx := ihb s lb s2 hs hb
        rw [hx.1]
        simp only [Option.bind_some]
        split at h
        · cases h
        · rename_i hne
          rw [if_neg hne, take_ext he 124 (by decide)]
          cases ht : take [124] s2 with
          | none =>
            rw [ht] at h
            simp only [Option.some.injEq, Prod.mk.injEq] at h
            obtain ⟨rfl, rfl⟩ := h
            exact ⟨rfl, hx.2⟩
          | some s3 =>
            rw [ht] at h
            simp only [Option.map_some] at h ⊢
            have hs3 := (take_suf ht).trans hx.2
            cases hb2 : branches fold f s3 with
            | none => rw [hb2] at h; cases h
            | some y =>
              obtain ⟨l2, s4⟩ := y
              rw [hb2] at h
              simp only [Option.map_some, Option.some.injEq, Prod.mk.injEq] at h
              obtain ⟨rfl, rfl⟩ := h
              have hy := ihbs s3 l2 _ (cl_suf hs3 hs) hb2
              rw [hy.1]
              exact ⟨rfl, hy.2.trans hs3⟩
    · by_cases hn : s = []
      · subst hn
        rw [branch_stop _ _ _ rfl] at h
        simp only [Option.some.injEq, Prod.mk.injEq] at h
        obtain ⟨rfl, rfl⟩ := h
        rw [branch_stop _ _ _ (by rw [he]; rfl)]
        exact ⟨rfl, Suf.refl _⟩
      · cases hst : stop s with
        | true =>
          rw [branch_stop _ _ _ hst] at h
          simp only [Option.some.injEq, Prod.mk.injEq] at h
          obtain ⟨rfl, rfl⟩ := h
          rw [branch_stop _ _ _ (by rw [stop_ext s hn]; exact hst)]
          exact ⟨rfl, Suf.refl _⟩
        | false =>
          rw [branch_go _ _ _ hst] at h
          rw [branch_go _ _ _ (by rw [stop_ext s hn]; exact hst), anch_ext s hn]
          cases ha : atom fold f s with
          | none => rw [ha] at h; cases h
          | some x =>
            obtain ⟨n, s2⟩ := x
            rw [ha] at h
            simp only [Option.bind_some] at h
            have hx := iha s n s2 hs ha
            rw [hx.1]
            simp only [Option.bind_some]
            rw [piece_ext he]
            cases hp : piece true n (anch s) s2 with
            | none => rw [hp] at h; cases h
            | some y =>
              obtain ⟨n2, s3⟩ := y
              rw [hp] at h
              simp only [Option.bind_some, Option.map_some] at h ⊢
              have hs3 := (piece_suf hp).trans hx.2
              cases hb : branch fold f s3 with
              | none => rw [hb] at h; cases h
              | some z =>
                obtain ⟨l2, s4⟩ := z
                rw [hb] at h
                simp only [Option.map_some, Option.some.injEq, Prod.mk.injEq] at h
                obtain ⟨rfl, rfl⟩ := h
                have hz := ihb s3 l2 _ (cl_suf hs3 hs) hb
                rw [hz.1]
                exact ⟨rfl, hz.2.trans hs3⟩
    · cases s with
      | nil => rw [atom_nil] at h; cases h
      | cons c r =>
        rw [atom_def] at h
        rw [List.cons_append, atom_def]
        exact atomBy_ext he fold _ ihbs c r s1 n hs h

end

/-! ## More steps change nothing -/

theorem atomBy_mono (fold : Bool) (i1 i2 : Bytes → Option (List Nd × Bytes)) (h : ∀ s x, i1 s = some x → i2 s = some x) (c : UInt8) (r : Bytes) (x : Nd × Bytes) (hx : atomBy fold i1 c r = some x) : atomBy fold i2 c r = some x := by
  unfold atomBy at hx ⊢
  split
  · rename_i hc
    rw [if_pos hc] at hx
    cases hi : i1 r with
    | none => rw [hi] at hx; cases hx
    | some y => rw [h r y hi]; rw [hi] at hx; exact hx
  · rename_i hc
    rw [if_neg hc] at hx
    exact hx

theorem mono_all (fold : Bool) : ∀ f g : Nat, f ≤ g →
    (∀ s x, branches fold f s = some x → branches fold g s = some x) ∧ (∀ s x, branch fold f s = some x → branch fold g s = some x) ∧ (∀ s x, atom fold f s = some x → atom fold g s = some x) := by
  intro f
  induction f with
  | zero =>
    intro g _
    refine ⟨fun s x h => ?_, fun s x h => ?_, fun s x h => ?_⟩
    · rw [branches] at h; cases h
    · rw [branch] at h; cases h
    · rw [atom] at h; cases h
  | succ f ih =>
    intro g hg
    obtain ⟨g, rfl⟩ : ∃ k, g = k + 1 := ⟨g - 1, by omega⟩
    obtain ⟨ihbs, ihb, iha⟩ := ih g (by omega)
    refine ⟨fun s x h => ?_, fun s x h => ?_, fun s x h => ?_⟩
    · rw [branches_def] at h ⊢
      cases hb : branch fold f s with
      | none => rw [hb] at h; cases h
      | some y =>
        rw [hb] at h
        rw [ihb s y hb]
        simp only [Option.bind_some] at h ⊢
        split at h
        · cases h
        · rename_i hne
          rw [if_neg hne]
          cases ht : take [124] y.2 with
          | none => rw [ht] at h; exact h
          | some s3 =>
            rw [ht] at h
            simp only at h ⊢
            cases hb2 : branches fold f s3 with
            | none => rw [hb2] at h; cases h
            | some z => rw [ihbs s3 z hb2]; rw [hb2] at h; exact h
    · cases hst : stop s with
      | true => rw [branch_stop _ _ _ hst] at h ⊢; exact h
      | false =>
        rw [branch_go _ _ _ hst] at h ⊢
        cases ha : atom fold f s with
        | none => rw [ha] at h; cases h
        | some y =>
          rw [ha] at h
          rw [iha s y ha]
          simp only [Option.bind_some] at h ⊢
          cases hp : piece true y.1 (anch s) y.2 with
          | none => rw [hp] at h; cases h
          | some z =>
            rw [hp] at h
            simp only [Option.bind_some] at h ⊢
            cases hb : branch fold f z.2 with
            | none => rw [hb] at h; cases h
            | some u => rw [ihb z.2 u hb]; rw [hb] at h; exact h
    · cases s with
      | nil => rw [atom_nil] at h; cases h
      | cons c r =>
        rw [atom_def] at h ⊢
        exact atomBy_mono fold _ _ ihbs c r x h

/-! ## In parentheses -/

/-- An extended expression that is read whole. -/
theorem read_ext {p : Bytes} {fold : Bool} {n : Nd} (h : read p true fold = some n) : ∃ l, branches fold (3 * p.length + 4) p = some (l, []) ∧ n = joinN .alt l := by
  unfold read at h
  simp only [if_true] at h
  cases hb : branches fold (3 * p.length + 4) p with
  | none => rw [hb] at h; cases h
  | some x =>
    obtain ⟨l, s⟩ := x
    rw [hb] at h
    simp only [Option.map_some] at h
    cases s with
    | nil =>
      simp only [Option.some.injEq] at h
      exact ⟨l, rfl, h.symm⟩
    | cons c r => simp at h

theorem paren {p t : Bytes} {fold : Bool} {n : Nd} (h : read p true fold = some n) (hc : cl p = false) (f : Nat) (hf : 3 * p.length + 5 ≤ f) : atom fold f (40 :: (p ++ 41 :: t)) = some (n, t) := by
  obtain ⟨l, hb, rfl⟩ := read_ext h
  obtain ⟨f, rfl⟩ : ∃ g, f = g + 1 := ⟨f - 1, by omega⟩
  have h1 := ((ext_all (e := 41 :: t) rfl fold _).1 p l [] hc hb).1
  have h2 := (mono_all fold (3 * p.length + 4) f (by omega)).1 _ _ h1
  rw [atom_def]
  unfold atomBy
  rw [if_pos rfl, h2]
  simp [take]

theorem times_paren (r : Bytes) : times true (40 :: r) = some (none, 40 :: r) := by
  unfold times
  simp [take, List.isPrefixOf]
theorem times_bar (r : Bytes) : times true (124 :: r) = some (none, 124 :: r) := by
  unfold times
  simp [take, List.isPrefixOf]
theorem times_nil : times true [] = some (none, []) := by
  unfold times
  simp [take]

/-- One piece in parentheses, and what is behind it. -/
theorem branch_paren {p t : Bytes} {fold : Bool} {n : Nd} (h : read p true fold = some n) (hc : cl p = false) (f : Nat) (hf : 3 * p.length + 5 ≤ f) (ht : times true t = some (none, t)) :
    branch fold (f + 1) (40 :: (p ++ 41 :: t)) = (branch fold f t).map fun z => (n :: z.1, z.2) := by
  rw [branch_go _ _ _ (by rfl), paren h hc f hf]
  simp only [Option.bind_some]
  have hp : piece true n (anch (40 :: (p ++ 41 :: t))) t = some (n, t) := by
    unfold piece
    rw [ht]
  rw [hp]
  rfl

/-- One behind the other. -/
theorem read_both {p q : Bytes} {fold : Bool} {n m : Nd} (hp : read p true fold = some n) (hq : read q true fold = some m) (hcp : cl p = false) (hcq : cl q = false) :
    read (40 :: (p ++ 41 :: 40 :: (q ++ [41]))) true fold = some (.cat [n, m]) := by
  have hl : (40 :: (p ++ 41 :: 40 :: (q ++ [41])) : Bytes).length = p.length + q.length + 4 := by simp; omega
  unfold read
  simp only [if_true]
  rw [hl, show 3 * (p.length + q.length + 4) + 4 = (3 * (p.length + q.length) + 14) + 1 + 1 by omega, branches_def, branch_paren hp hcp _ (by omega) (times_paren _),
    show 3 * (p.length + q.length) + 14 = (3 * (p.length + q.length) + 12) + 1 + 1 by omega, branch_paren hq hcq _ (by omega) times_nil, branch_stop _ _ _ rfl]
  rfl

/-- One or the other. -/
theorem read_or {p q : Bytes} {fold : Bool} {n m : Nd} (hp : read p true fold = some n) (hq : read q true fold = some m) (hcp : cl p = false) (hcq : cl q = false) :
    read (40 :: (p ++ 41 :: 124 :: 40 :: (q ++ [41]))) true fold = some (.alt [n, m]) := by
  have hl : (40 :: (p ++ 41 :: 124 :: 40 :: (q ++ [41])) : Bytes).length = p.length + q.length + 5 := by simp; omega
  unfold read
  simp only [if_true]
  rw [hl, show 3 * (p.length + q.length + 5) + 4 = (3 * (p.length + q.length) + 16) + 1 + 1 + 1 by omega, branches_def, branch_paren hp hcp _ (by omega) (times_bar _),
    branch_stop _ _ _ rfl]
  simp only [Option.map_some, Option.bind_some]
  rw [if_neg (by simp), show take [124] (124 :: 40 :: (q ++ [41])) = some (40 :: (q ++ [41])) by simp [take]]
  simp only
  rw [branches_def, show 3 * (p.length + q.length) + 16 + 1 = (3 * (p.length + q.length) + 15) + 1 + 1 by omega, branch_paren hq hcq _ (by omega) times_nil, branch_stop _ _ _ rfl]
  rfl

/-! ## Repeated -/

theorem digits_ok : ∀ m : Nat, m < 256 → (digitsF 10 20 m).all digit = true ∧ value (digitsF 10 20 m) = m ∧ (digitsF 10 20 m).isEmpty = false := by decide +kernel

theorem number_digits (m : Nat) (hm : m < 256) (c : UInt8) (r : Bytes) (hc : digit c = false) : number (digitsF 10 20 m ++ c :: r) = some (m, c :: r) := by
  obtain ⟨h1, h2, h3⟩ := digits_ok m hm
  have h4 : ∀ a ∈ digitsF 10 20 m, digit a = true := List.all_eq_true.1 h1
  have e1 : (digitsF 10 20 m ++ c :: r).takeWhile digit = digitsF 10 20 m := by
    rw [List.takeWhile_append_of_pos h4, List.takeWhile_cons, hc]
    simp
  have e2 : (digitsF 10 20 m ++ c :: r).dropWhile digit = c :: r := by
    rw [List.dropWhile_append_of_pos h4, List.dropWhile_cons, hc]
    simp
  unfold number
  rw [e1, e2]
  simp only
  rw [h2, h3, if_pos]
  simp
  omega

theorem times_digits (m n : Nat) (hmn : m ≤ n) (hn : n < 256) : times true (123 :: (digitsF 10 20 m ++ 44 :: (digitsF 10 20 n ++ [125]))) = some (some (m, (n : Int)), []) := by
  have hd : ([125] : Bytes).isPrefixOf (digitsF 10 20 n ++ [125]) = false := by
    obtain ⟨h1, -, h3⟩ := digits_ok n hn
    cases hx : digitsF 10 20 n with
    | nil => rw [hx] at h3; cases h3
    | cons a b =>
      rw [hx] at h1
      have ha := List.all_eq_true.1 h1 a (by simp)
      have : ¬ 125 = a := by
        rintro rfl
        exact absurd ha (by decide)
      simp [List.isPrefixOf, this]
  have t1 : ∀ (k : UInt8) (r : Bytes), k ≠ 123 → take [k] (123 :: r) = none := fun k r hk => by simp [take, hk]
  unfold times
  simp only [if_true]
  rw [t1 42 _ (by decide), t1 43 _ (by decide), t1 63 _ (by decide), show ∀ r, take [123] (123 :: r) = some r from fun r => by simp [take]]
  simp only
  rw [number_digits m (by omega) 44 _ (by decide)]
  simp only
  rw [show ∀ r, take [44] (44 :: r) = some r from fun r => by simp [take]]
  simp only
  rw [hd, number_digits n hn 125 [] (by decide)]
  simp only [Bool.false_eq_true, if_false]
  rw [if_neg (by omega)]
  simp [take]

/-- One repeated. -/
theorem read_rep {p : Bytes} {fold : Bool} {k : Nd} (hp : read p true fold = some k) (hcp : cl p = false) (m n : Nat) (hmn : m ≤ n) (hn : n < 256) :
    read (40 :: (p ++ 41 :: 123 :: (digitsF 10 20 m ++ 44 :: (digitsF 10 20 n ++ [125])))) true fold = some (.rep m n k) := by
  have hl : p.length + 5 ≤ (40 :: (p ++ 41 :: 123 :: (digitsF 10 20 m ++ 44 :: (digitsF 10 20 n ++ [125]))) : Bytes).length := by simp; omega
  generalize hN : (40 :: (p ++ 41 :: 123 :: (digitsF 10 20 m ++ 44 :: (digitsF 10 20 n ++ [125]))) : Bytes).length = N at hl
  unfold read
  simp only [if_true]
  rw [hN, show 3 * N + 4 = (3 * N + 1) + 1 + 1 + 1 by omega, branches_def, branch_go _ _ _ (by rfl), paren hp hcp _ (by omega)]
  simp only [Option.bind_some]
  have hpc : piece true k (anch (40 :: (p ++ 41 :: 123 :: (digitsF 10 20 m ++ 44 :: (digitsF 10 20 n ++ [125]))))) (123 :: (digitsF 10 20 m ++ 44 :: (digitsF 10 20 n ++ [125]))) = some (.rep m n k, []) := by
    unfold piece
    rw [times_digits m n hmn hn]
    simp only
    rw [times_nil]
    rfl
  rw [hpc]
  simp only [Option.bind_some]
  rw [branch_stop _ _ _ rfl]
  rfl

/-! ## How they are told -/

theorem size_one_le (n : Nd) : n.size ≤ 20000 := by
  cases n <;> simp only [Nd.size] <;> omega

theorem tell_of {s : Bytes} {fold : Bool} {n : Nd} (h : read s true fold = some n) (hs : n.size ≤ 10000) : tellOf s true fold = some n.told := by
  unfold tellOf
  rw [h]
  simp only
  rw [if_neg (by omega)]
theorem tell_inv {s : Bytes} {fold : Bool} {x : Bytes} (h : tellOf s true fold = some x) : ∃ n, read s true fold = some n ∧ n.size ≤ 10000 ∧ x = n.told := by
  unfold tellOf at h
  cases hr : read s true fold with
  | none => rw [hr] at h; cases h
  | some n =>
    rw [hr] at h
    simp only at h
    split at h
    · cases h
    · rename_i hn
      exact ⟨n, rfl, by omega, (Option.some.inj h).symm⟩

theorem tell_both {p q : Bytes} {fold : Bool} {n m : Nd} (hp : read p true fold = some n) (hq : read q true fold = some m) (hcp : cl p = false) (hcq : cl q = false) (hs : n.size + m.size < 9999) :
    tellOf (40 :: (p ++ 41 :: 40 :: (q ++ [41]))) true fold = some (40 :: (n.told ++ m.told) ++ [41]) := by
  rw [tell_of (read_both hp hq hcp hcq) (by simp only [Nd.size, sizes]; omega)]
  simp [Nd.told, tolds, sepBy]
theorem tell_or {p q : Bytes} {fold : Bool} {n m : Nd} (hp : read p true fold = some n) (hq : read q true fold = some m) (hcp : cl p = false) (hcq : cl q = false) (hs : n.size + m.size < 9999) :
    tellOf (40 :: (p ++ 41 :: 124 :: 40 :: (q ++ [41]))) true fold = some (40 :: (n.told ++ 124 :: m.told) ++ [41]) := by
  rw [tell_of (read_or hp hq hcp hcq) (by simp only [Nd.size, sizes]; omega)]
  simp [Nd.told, tolds, sepBy]
theorem tell_rep {p : Bytes} {fold : Bool} {k : Nd} (hp : read p true fold = some k) (hcp : cl p = false) (m n : Nat) (hmn : m ≤ n) (hn : n < 256) (hs : k.size * (n + 1) < 9999) :
    tellOf (40 :: (p ++ 41 :: 123 :: (digitsF 10 20 m ++ 44 :: (digitsF 10 20 n ++ [125])))) true fold = some (k.told ++ 123 :: (digitsF 10 20 m ++ 44 :: (digitsF 10 20 n ++ [125]))) := by
  have h1 : k.size * max 1 n ≤ k.size * (n + 1) := Nat.mul_le_mul_left _ (by omega)
  rw [tell_of (read_rep hp hcp m n hmn hn) (by
    simp only [Nd.size]
    rw [if_neg (by omega), Int.toNat_natCast, Nat.min_eq_right (size_one_le k)]
    omega)]
  simp only [Nd.told]
  rw [if_pos (by omega), Int.toNat_natCast]
  simp

end Go.Proofs.YthdkbbkkijdhfaaGreatDoor.Rx
