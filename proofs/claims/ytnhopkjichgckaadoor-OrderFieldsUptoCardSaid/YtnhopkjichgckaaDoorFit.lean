/-
  What Read accepts keeps within its bounds. No condition, no walk.
-/
import Derived.Test.YtnhopkjichgckaaDoorW11
namespace Go.Proofs.YtnhopkjichgckaaDoor
open Go

theorem number_bd {s : Ord.Bytes} {most v : Int} (h : Ord.number s most = some v) : 0 ≤ v ∧ v ≤ most := by
  unfold Ord.number at h
  split at h
  · rename_i hc
    simp only [Bool.and_eq_true, decide_eq_true_eq] at hc
    simp only [Option.some.injEq] at h
    omega
  · cases h

theorem readC_bd {s : Ord.Bytes} {leastC c : Int} {r : Ord.Bytes} (h : Ord.readC s leastC = some (c, r)) : 0 ≤ c ∧ c ≤ 2147483647 := by
  unfold Ord.readC at h
  split at h
  · split at h
    · cases h
    · rename_i c' hc
      have := number_bd hc
      split at h
      · cases h
      · simp at h; omega
  · simp at h; omega

theorem read_bd {s : Ord.Bytes} {b leastC fl : Int} {p : Ord.Place} (h : Ord.read s b leastC = some (p, fl)) : 1 ≤ p.f ∧ p.f ≤ 2147483647 ∧ 0 ≤ p.c ∧ p.c ≤ 2147483647 := by
  unfold Ord.read at h
  split at h
  · cases h
  · rename_i f hf
    have h1 := number_bd hf
    split at h
    · cases h
    · split at h
      · cases h
      · rename_i c r hc
        have h2 := readC_bd hc
        split at h
        · cases h
        · simp at h
          obtain ⟨rfl, _⟩ := h
          simp only
          omega

theorem keyed_fit {s : Ord.Bytes} {whole : Int} {k : Ord.Key} (h : Ord.keyed s whole = some k) : FitKey k := by
  unfold Ord.keyed at h
  split at h
  · cases h
  · rename_i p fl hp
    have h1 := read_bd hp
    split at h
    · simp at h
      subst h
      exact ⟨h1.1, h1.2.1, h1.2.2.1, h1.2.2.2, by simp, by simp, by simp, by simp⟩
    · split at h
      · cases h
      · rename_i q fl2 hq
        have h2 := read_bd hq
        simp at h
        subst h
        exact ⟨h1.1, h1.2.1, h1.2.2.1, h1.2.2.2, by simp only; omega, h2.2.1, h2.2.2.1, h2.2.2.2⟩

theorem readOpts_fit (whole : Int) : ∀ (l : List Ord.Opt) (sep : Int) (ks : List Ord.Key) (sep' : Int) (ks' : List Ord.Key), (-2 ≤ sep ∧ sep < 256) → (∀ k ∈ ks, FitKey k) → Ord.readOpts whole l sep ks = some (sep', ks') → (-2 ≤ sep' ∧ sep' < 256) ∧ ∀ k ∈ ks', FitKey k := by
  intro l
  induction l with
  | nil =>
    intro sep ks sep' ks' h1 h2 h
    simp [Ord.readOpts] at h
    obtain ⟨rfl, rfl⟩ := h
    exact ⟨h1, h2⟩
  | cons x r ih =>
    intro sep ks sep' ks' h1 h2 h
    unfold Ord.readOpts at h
    split at h
    · refine ih _ _ _ _ ?_ h2 h
      split
      · rename_i c _
        have := c.toNat_lt
        omega
      · omega
    · split at h
      · split at h
        · cases h
        · rename_i k hk
          refine ih _ _ _ _ h1 ?_ h
          intro k' hk'
          rcases List.mem_append.1 hk' with h3 | h3
          · exact h2 k' h3
          · simp at h3; subst h3; exact keyed_fit hk
      · exact ih _ _ _ _ h1 h2 h

theorem readAll_fit {l : List Ord.Opt} {o : Ord.Ordr} (h : Ord.readAll l = some o) : (∀ k ∈ o.keys, FitKey k) ∧ -1 ≤ o.sep ∧ o.sep < 256 := by
  unfold Ord.readAll at h
  split at h
  · cases h
  · rename_i sep ks hr
    obtain ⟨h1, h2⟩ := readOpts_fit _ l (-1) [] sep ks ⟨by omega, by omega⟩ (by simp) hr
    split at h
    · cases h
    · rename_i hne
      simp at h
      subst h
      refine ⟨?_, by simp only; omega, h1.2⟩
      intro k hk
      simp only at hk
      split at hk
      · simp at hk; subst hk; exact ⟨by simp, by simp, by simp, by simp, by simp, by simp, by simp, by simp⟩
      · exact h2 k hk

end Go.Proofs.YtnhopkjichgckaaDoor
