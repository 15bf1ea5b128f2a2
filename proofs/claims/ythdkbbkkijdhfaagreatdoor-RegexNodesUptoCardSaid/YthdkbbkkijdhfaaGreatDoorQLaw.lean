/-
  The plain law of RegexQuotes: a text of which each byte that is no letter and no digit stands behind a backslash is read as the text alone. No program in sight.
-/
import Derived.Test.YthdkbbkkijdhfaaGreatDoorSpec
namespace Go.Proofs.YthdkbbkkijdhfaaGreatDoor.Rx
open Go

def rawY (c : UInt8) : Bool := alnum c || (c == 40 || c == 41 || c == 123 || c == 125)
def encX : Bytes → Bytes
  | [] => []
  | c :: r => (if alnum c then [c] else [92, c]) ++ encX r
def encY : Bytes → Bytes
  | [] => []
  | c :: r => (if rawY c then [c] else [92, c]) ++ encY r

theorem u8_all {p : UInt8 → Prop} (h : ∀ n : Nat, n < 256 → p (UInt8.ofNat n)) (c : UInt8) : p c := by
  have := h c.toNat c.toNat_lt
  rwa [UInt8.ofNat_toNat] at this

theorem alnum_not : ∀ c : UInt8, alnum c = true → c ≠ 40 ∧ c ≠ 91 ∧ c ≠ 46 ∧ c ≠ 94 ∧ c ≠ 36 ∧ c ≠ 92 ∧ c ≠ 42 ∧ c ≠ 43 ∧ c ≠ 63 ∧ c ≠ 123 ∧ c ≠ 124 ∧ c ≠ 41 ∧ c ≠ 125 := by
  have h : ∀ c : UInt8, (!alnum c || (c != 40 && c != 91 && c != 46 && c != 94 && c != 36 && c != 92 && c != 42 && c != 43 && c != 63 && c != 123 && c != 124 && c != 41 && c != 125)) = true :=
    u8_all (p := fun c => (!alnum c || (c != 40 && c != 91 && c != 46 && c != 94 && c != 36 && c != 92 && c != 42 && c != 43 && c != 63 && c != 123 && c != 124 && c != 41 && c != 125)) = true) (by decide +kernel)
  intro c hc
  have := h c
  rw [hc] at this
  simpa [and_assoc] using this

theorem takeNone {k : UInt8} {t s : Bytes} (h : s.head? ≠ some k) : take (k :: t) s = none := by
  unfold take
  cases s with
  | nil => simp
  | cons d r =>
    have h1 : ¬ k = d := fun e => h (by simp [e])
    simp [List.isPrefixOf, h1]
theorem takeTwoNone {k l : UInt8} {s : Bytes} (h : ∀ r, s ≠ k :: l :: r) : take [k, l] s = none := by
  unfold take
  rcases s with _ | ⟨a, _ | ⟨b, r⟩⟩
  · simp
  · simp [List.isPrefixOf]
  · have h1 : ¬ (k = a ∧ l = b) := fun e => h r (by rw [e.1, e.2])
    have h2 : ([k, l] : Bytes).isPrefixOf (a :: b :: r) = false := by
      rw [Bool.eq_false_iff]
      intro e
      simp [List.isPrefixOf] at e
      exact h1 e
    rw [h2]; rfl
theorem takeOne (k : UInt8) (s : Bytes) : take [k] (k :: s) = some s := by simp [take]

theorem headX (s : Bytes) (k : UInt8) (hk : alnum k = false) (h92 : k ≠ 92) : (encX s).head? ≠ some k := by
  cases s with
  | nil => simp [encX]
  | cons c r =>
    unfold encX
    by_cases h : alnum c = true
    · rw [if_pos h]
      intro e
      simp at e
      rw [e, hk] at h; cases h
    · rw [if_neg h]
      intro e
      simp at e
      exact h92 e.symm
theorem headY (s : Bytes) (k : UInt8) (hk : rawY k = false) (h92 : k ≠ 92) : (encY s).head? ≠ some k := by
  cases s with
  | nil => simp [encY]
  | cons c r =>
    unfold encY
    by_cases h : rawY c = true
    · rw [if_pos h]
      intro e
      simp at e
      rw [e, hk] at h; cases h
    · rw [if_neg h]
      intro e
      simp at e
      exact h92 e.symm
/-- Behind a backslash stands none of some. -/
theorem secondY (s : Bytes) (k : UInt8) (hk : rawY k = true) : ∀ r, encY s ≠ 92 :: k :: r := by
  intro r e
  cases s with
  | nil => simp [encY] at e
  | cons c t =>
    unfold encY at e
    by_cases h : rawY c = true
    · rw [if_pos h] at e
      simp at e
      rw [e.1] at h
      revert h; decide
    · rw [if_neg h] at e
      simp at e
      rw [e.1, hk] at h; exact h rfl

theorem timesX (s : Bytes) : times true (encX s) = some (none, encX s) := by
  have h1 := takeNone (t := []) (headX s 42 (by decide) (by decide))
  have h2 := takeNone (t := []) (headX s 43 (by decide) (by decide))
  have h3 := takeNone (t := []) (headX s 63 (by decide) (by decide))
  have h4 := takeNone (t := []) (headX s 123 (by decide) (by decide))
  simp [times, h1, h2, h3, h4]
theorem timesY (s : Bytes) : times false (encY s) = some (none, encY s) := by
  have h1 := takeNone (t := []) (headY s 42 (by decide) (by decide))
  have h4 := takeTwoNone (secondY s 123 (by decide))
  simp [times, h1, h4]

theorem atomX (fold : Bool) (f : Nat) (c : UInt8) (r : Bytes) : atom fold (f + 1) ((if alnum c then [c] else [92, c]) ++ encX r) = some (one fold c, encX r) := by
  by_cases h : alnum c = true
  · rw [if_pos h]
    obtain ⟨a1, a2, a3, a4, a5, a6, a7, a8, a9, a10, -⟩ := alnum_not c h
    simp [atom, a1, a2, a3, a4, a5, a6, a7, a8, a9, a10]
  · rw [if_neg h]
    simp only [List.cons_append, List.nil_append]
    rw [atom.eq_def]
    simp [escaped, h]

theorem branchX (fold : Bool) (s : Bytes) : ∀ f, 3 * (encX s).length + 2 ≤ f → branch fold f (encX s) = some (s.map (one fold), []) := by
  induction s with
  | nil =>
    intro f hf
    obtain ⟨g, rfl⟩ : ∃ g, f = g + 1 := ⟨f - 1, by omega⟩
    simp [encX, branch]
  | cons c r ih =>
    intro f hf
    have hlen : (encX (c :: r)).length = (if alnum c then [c] else [92, c]).length + (encX r).length := by rw [encX]; simp
    have hl1 : 1 ≤ (if alnum c then [c] else [92, c]).length := by split <;> simp
    obtain ⟨g, rfl⟩ : ∃ g, f = g + 2 := ⟨f - 2, by omega⟩
    have h1 := headX (c :: r) 124 (by decide) (by decide)
    have h2 := headX (c :: r) 41 (by decide) (by decide)
    have h0 : encX (c :: r) ≠ [] := fun e => by rw [e] at hlen; simp at hlen; omega
    have ha := atomX fold g c r
    rw [show (if alnum c then [c] else [92, c]) ++ encX r = encX (c :: r) from rfl] at ha
    rw [branch.eq_def]
    simp only []
    rw [if_neg (by rintro (h | h | h); exact h0 h; exact h1 h; exact h2 h), ha]
    simp only [piece, timesX]
    rw [ih (g + 1) (by omega)]
    rfl

theorem readX (fold : Bool) (s : Bytes) (h0 : s ≠ []) : read (encX s) true fold = some (joinN .cat (s.map (one fold))) := by
  unfold read
  rw [if_pos rfl]
  obtain ⟨g, hg⟩ : ∃ g, 3 * (encX s).length + 4 = g + 1 := ⟨_, rfl⟩
  rw [hg, branches.eq_def]
  simp only []
  rw [branchX fold s g (by omega)]
  cases s with
  | nil => exact absurd rfl h0
  | cons c r =>
    simp only [List.map_cons]
    rw [takeNone (by simp)]
    rfl

theorem plainY (fold : Bool) (f : Nat) (c : UInt8) (r : Bytes) : plain fold (f + 1) ((if rawY c then [c] else [92, c]) ++ encY r) = some (one fold c, encY r) := by
  rw [plain.eq_def]
  simp only []
  have e0 : encY (c :: r) = (if rawY c then [c] else [92, c]) ++ encY r := rfl
  rw [← e0]
  rw [takeTwoNone (secondY (c :: r) 40 (by decide)), takeNone (headY (c :: r) 91 (by decide) (by decide)), takeNone (headY (c :: r) 46 (by decide) (by decide))]
  simp only []
  rw [e0]
  by_cases h : rawY c = true
  · rw [if_pos h]
    have h92 : c ≠ 92 := by rintro rfl; revert h; decide
    simp only [List.cons_append, List.nil_append]
    rw [takeNone (by simpa using h92)]
  · rw [if_neg h]
    simp only [List.cons_append, List.nil_append, takeOne]
    unfold rawY at h
    simp only [Bool.or_eq_true, not_or, beq_iff_eq, Bool.not_eq_true] at h
    obtain ⟨h1, ⟨⟨h2, h3⟩, h4⟩, h5⟩ := h
    simp [escaped, h1, h3, h4, h5]

theorem piecesY (fold : Bool) (s : Bytes) : ∀ f free, 3 * (encY s).length + 2 ≤ f → pieces fold f free (encY s) = some (s.map (one fold), []) := by
  induction s with
  | nil =>
    intro f free hf
    obtain ⟨g, rfl⟩ : ∃ g, f = g + 1 := ⟨f - 1, by omega⟩
    simp [encY, pieces]
  | cons c r ih =>
    intro f free hf
    have hlen : (encY (c :: r)).length = (if rawY c then [c] else [92, c]).length + (encY r).length := by rw [encY]; simp
    have hl1 : 1 ≤ (if rawY c then [c] else [92, c]).length := by split <;> simp
    obtain ⟨g, rfl⟩ : ∃ g, f = g + 2 := ⟨f - 2, by omega⟩
    have h0 : encY (c :: r) ≠ [] := fun e => by rw [e] at hlen; simp at hlen; omega
    have h1 : ([92, 41] : Bytes).isPrefixOf (encY (c :: r)) = false := by
      have := takeTwoNone (secondY (c :: r) 41 (by decide))
      unfold take at this
      split at this
      · cases this
      · rename_i h; exact Bool.eq_false_iff.2 h
    have h36 := headY (c :: r) 36 (by decide) (by decide)
    have h2 : ([36, 92, 41] : Bytes).isPrefixOf (encY (c :: r)) = false := by
      have := takeNone (t := [92, 41]) h36
      unfold take at this
      split at this
      · cases this
      · rename_i h; exact Bool.eq_false_iff.2 h
    have h42 := headY (c :: r) 42 (by decide) (by decide)
    have ha := plainY fold g c r
    rw [show (if rawY c then [c] else [92, c]) ++ encY r = encY (c :: r) from rfl] at ha
    rw [pieces.eq_def]
    simp only []
    rw [if_neg (by rintro (h | h); exact h0 h; rw [h1] at h; cases h), if_neg (by rintro (h | h); rw [h] at h36; exact h36 rfl; rw [h2] at h; cases h), if_neg (fun h => h42 h.1), ha]
    simp only [piece, timesY]
    rw [ih (g + 1) false (by omega)]
    rfl

theorem readY (fold : Bool) (s : Bytes) : read (encY s) false fold = some (joinN .cat (s.map (one fold))) := by
  unfold read
  rw [if_neg (by decide)]
  obtain ⟨g, hg⟩ : ∃ g, 3 * (encY s).length + 4 = g + 1 := ⟨_, rfl⟩
  rw [hg, basic.eq_def]
  simp only []
  rw [takeNone (headY s 94 (by decide) (by decide))]
  simp only []
  rw [piecesY fold s g true (by omega)]
  rfl

theorem sizes_ones (fold : Bool) (s : Bytes) : ∀ a, a + s.length ≤ 20000 → sizes (s.map (one fold)) a = a + s.length := by
  induction s with
  | nil => intro a _; simp [sizes]
  | cons c r ih =>
    intro a ha
    simp only [List.length_cons] at ha
    have h1 : (one fold c).size = 1 := by simp [one, Nd.size]
    simp only [List.map_cons, sizes, h1, List.length_cons]
    rw [Nat.min_eq_right (by omega), ih (a + 1) (by omega)]
    omega

theorem lit_size (fold : Bool) (s : Bytes) (h : s.length ≤ 2000) : (joinN .cat (s.map (one fold))).size ≤ 10000 := by
  rcases s with _ | ⟨c, _ | ⟨d, r⟩⟩
  · simp [joinN, Nd.size]
  · simp [joinN, one, Nd.size]
  · have := sizes_ones fold (c :: d :: r) 0 (by omega)
    show (Nd.cat ((c :: d :: r).map (one fold))).size ≤ 10000
    simp only [Nd.size]
    rw [this]
    omega

theorem tellX (fold : Bool) (s : Bytes) (h0 : s ≠ []) (h : s.length ≤ 2000) : tellOf (encX s) true fold = some (joinN .cat (s.map (one fold))).told := by
  unfold tellOf
  rw [readX fold s h0]
  simp only []
  rw [if_neg (by have := lit_size fold s h; omega)]
theorem tellY (fold : Bool) (s : Bytes) (h : s.length ≤ 2000) : tellOf (encY s) false fold = some (joinN .cat (s.map (one fold))).told := by
  unfold tellOf
  rw [readY fold s]
  simp only []
  rw [if_neg (by have := lit_size fold s h; omega)]

end Go.Proofs.YthdkbbkkijdhfaaGreatDoor.Rx
