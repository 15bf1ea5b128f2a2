/-
  Texts of this seat put together: RLaw.
-/
import Derived.Test.YthdkbbkkijdhfaaGreatDoorH11
import Derived.Test.YthdkbbkkijdhfaaGreatDoorH22
import Derived.Test.YthdkbbkkijdhfaaGreatDoorH28

/-
  The plain law of MatchAround: an expression that is read is well formed; without anchors it is found one further on behind a byte, and as long at least ahead of others. No program in sight but for what was shown of it.
-/
namespace Go.Proofs.YthdkbbkkijdhfaaGreatDoor
open Go.RowKit Go.Shelf Go.Maps

theorem times_wf {ext : Bool} {s s' : Rx.Bytes} {m : Nat} {most : Int} (h : Rx.times ext s = some (some (m, most), s')) : most < 0 ∨ (m : Int) ≤ most := by
  unfold Rx.times at h
  simp only [] at h
  split at h
  · cases h; decide
  · split at h
    · cases h; decide
    · split at h
      · cases h; decide
      · split at h
        · cases h
        · split at h
          · cases h
          · rename_i m r1 hn
            split at h
            · rw [Option.map_eq_some_iff] at h
              obtain ⟨r2, h2, h3⟩ := h
              cases h3
              omega
            · rename_i r2 h2
              by_cases hp : (if ext then ([125] : Rx.Bytes) else [92, 125]).isPrefixOf r2 = true
              · rw [if_pos hp, Option.map_eq_some_iff] at h
                obtain ⟨r3, h3, h4⟩ := h
                cases h4
                omega
              · rw [if_neg hp] at h
                split at h
                · cases h
                · split at h
                  · cases h
                  · rw [Option.map_eq_some_iff] at h
                    obtain ⟨r4, h4, h5⟩ := h
                    cases h5
                    omega

theorem wfs_all (l : List Rx.Nd) (h : ∀ n ∈ l, Mx.Wf n) : Mx.Wfs l := by
  induction l with
  | nil => rw [Mx.Wfs]; trivial
  | cons x r ih => rw [Mx.Wfs]; exact ⟨h x (by simp), ih fun n hn => h n (by simp [hn])⟩
theorem wf_joinCat {l : List Rx.Nd} (h : Mx.Wfs l) : Mx.Wf (Rx.joinN .cat l) := by
  match l, h with
  | [], _ => simp [Rx.joinN, Mx.Wf]
  | [x], h => rw [Mx.Wfs] at h; exact h.1
  | x :: y :: r, h => simp only [Rx.joinN]; rw [Mx.Wf]; exact h
theorem wf_joinAlt {l : List Rx.Nd} (h : Mx.Wfs l) : Mx.Wf (Rx.joinN .alt l) := by
  match l, h with
  | [], _ => simp [Rx.joinN, Mx.Wf]
  | [x], h => rw [Mx.Wfs] at h; exact h.1
  | x :: y :: r, h => simp only [Rx.joinN]; rw [Mx.Wf]; exact h
theorem wf_set (h : Rx.Has) : Mx.Wf (.set h) := by simp [Mx.Wf]
theorem piece_wf {ext : Bool} {n n' : Rx.Nd} {a : Bool} {s s' : Rx.Bytes} (hn : Mx.Wf n) (h : Rx.piece ext n a s = some (n', s')) : Mx.Wf n' := by
  unfold Rx.piece at h
  split at h
  · cases h
  · cases h; exact hn
  · rename_i m most s1 ht
    split at h
    · split at h
      · cases h
      · cases h
        rw [Mx.Wf]
        exact ⟨times_wf ht, hn⟩
    · cases h
theorem bracket_wf {fold : Bool} {s s' : Rx.Bytes} {n : Rx.Nd} (h : Rx.bracket fold s = some (n, s')) : Mx.Wf n := by
  unfold Rx.bracket at h
  simp only [] at h
  split at h
  · cases h
  · split at h
    · cases h
    · cases h; exact wf_set _
theorem escaped_wf {fold : Bool} {no s s' : Rx.Bytes} {n : Rx.Nd} (h : Rx.escaped fold no s = some (n, s')) : Mx.Wf n := by
  unfold Rx.escaped at h
  split at h
  · cases h
  · split at h
    · cases h
    · cases h; exact wf_set _

theorem ext_wf (fold : Bool) (f : Nat) : (∀ s l s', Rx.branches fold f s = some (l, s') → Mx.Wfs l) ∧ (∀ s l s', Rx.branch fold f s = some (l, s') → Mx.Wfs l) ∧ (∀ s n s', Rx.atom fold f s = some (n, s') → Mx.Wf n) := by
  induction f with
  | zero => exact ⟨fun s l s' h => by simp [Rx.branches] at h, fun s l s' h => by simp [Rx.branch] at h, fun s n s' h => by simp [Rx.atom] at h⟩
  | succ f ih =>
    obtain ⟨i1, i2, i3⟩ := ih
    refine ⟨fun s l s' h => ?_, fun s l s' h => ?_, fun s n s' h => ?_⟩
    · unfold Rx.branches at h
      split at h
      · cases h
      · cases h
      · rename_i l1 s1 _ hb
        have h1 := wf_joinCat (i2 _ _ _ hb)
        split at h
        · cases h; rw [Mx.Wfs, Mx.Wfs]; exact ⟨h1, trivial⟩
        · rw [Option.map_eq_some_iff] at h
          obtain ⟨x, hx, e⟩ := h
          cases e
          rw [Mx.Wfs]
          exact ⟨h1, i1 _ _ _ hx⟩
    · unfold Rx.branch at h
      split at h
      · cases h; rw [Mx.Wfs]; trivial
      · split at h
        · cases h
        · rename_i a s1 ha
          have h1 := i3 _ _ _ ha
          split at h
          · cases h
          · rename_i p s2 hp
            have h2 := piece_wf h1 hp
            rw [Option.map_eq_some_iff] at h
            obtain ⟨x, hx, e⟩ := h
            cases e
            rw [Mx.Wfs]
            exact ⟨h2, i2 _ _ _ hx⟩
    · unfold Rx.atom at h
      split at h
      · cases h
      · rename_i c t
        split at h
        · split at h
          · cases h
          · rename_i l s1 hb
            have h1 := i1 _ _ _ hb
            rw [Option.map_eq_some_iff] at h
            obtain ⟨x, hx, e⟩ := h
            cases e
            exact wf_joinAlt h1
        · split at h
          · exact bracket_wf h
          · split at h
            · cases h; exact wf_set _
            · split at h
              · cases h; simp [Mx.Wf]
              · split at h
                · cases h; simp [Mx.Wf]
                · split at h
                  · exact escaped_wf h
                  · split at h
                    · cases h
                    · cases h; exact wf_set _

theorem bas_wf (fold : Bool) (f : Nat) : (∀ s free l s', Rx.pieces fold f free s = some (l, s') → Mx.Wfs l) ∧ (∀ s n s', Rx.basic fold f s = some (n, s') → Mx.Wf n) ∧ (∀ s n s', Rx.plain fold f s = some (n, s') → Mx.Wf n) := by
  induction f with
  | zero => exact ⟨fun s free l s' h => by simp [Rx.pieces] at h, fun s n s' h => by simp [Rx.basic] at h, fun s n s' h => by simp [Rx.plain] at h⟩
  | succ f ih =>
    obtain ⟨i1, i2, i3⟩ := ih
    refine ⟨fun s free l s' h => ?_, fun s n s' h => ?_, fun s n s' h => ?_⟩
    · rw [Rx.pieces.eq_def] at h
      simp only [] at h
      split at h
      · cases h; rw [Mx.Wfs]; trivial
      · split at h
        · rw [Option.map_eq_some_iff] at h
          obtain ⟨x, hx, e⟩ := h
          cases e
          rw [Mx.Wfs]
          exact ⟨by simp [Mx.Wf], i1 _ _ _ _ hx⟩
        · split at h
          · cases h
          · split at h
            · cases h
            · rename_i a s1 ha
              have h1 := i3 _ _ _ ha
              split at h
              · cases h
              · rename_i p s2 hp
                have h2 := piece_wf h1 hp
                rw [Option.map_eq_some_iff] at h
                obtain ⟨x, hx, e⟩ := h
                cases e
                rw [Mx.Wfs]
                exact ⟨h2, i1 _ _ _ _ hx⟩
    · rw [Rx.basic.eq_def] at h
      simp only [] at h
      split at h
      · rw [Option.map_eq_some_iff] at h
        obtain ⟨x, hx, e⟩ := h
        cases e
        refine wf_joinCat ?_
        rw [Mx.Wfs]
        exact ⟨by simp [Mx.Wf], i1 _ _ _ _ hx⟩
      · rw [Option.map_eq_some_iff] at h
        obtain ⟨x, hx, e⟩ := h
        cases e
        exact wf_joinCat (i1 _ _ _ _ hx)
    · rw [plain_step] at h
      unfold plainStep at h
      split at h
      · split at h
        · cases h
        · rename_i n1 s1 hb
          rw [Option.map_eq_some_iff] at h
          obtain ⟨x, hx, e⟩ := h
          cases e
          exact i2 _ _ _ hb
      · split at h
        · exact bracket_wf h
        · split at h
          · cases h; exact wf_set _
          · split at h
            · exact escaped_wf h
            · split at h
              · cases h
              · cases h; exact wf_set _

theorem read_wf {s : Rx.Bytes} {ext fold : Bool} {n : Rx.Nd} (h : Rx.read s ext fold = some n) : Mx.Wf n := by
  unfold Rx.read at h
  split at h
  · rename_i n1 hx
    cases h
    cases ext with
    | true =>
      rw [if_pos rfl, Option.map_eq_some_iff] at hx
      obtain ⟨x, hx, e⟩ := hx
      rw [← (Prod.mk.inj e).1]
      exact wf_joinAlt ((ext_wf _ _).1 _ _ x.2 hx)
    | false =>
      rw [if_neg (by decide)] at hx
      exact (bas_wf _ _).2.1 _ _ _ hx
  · cases h

theorem prog_len {n : Rx.Nd} (hw : Mx.Wf n) (h : n.size ≤ 300) : (progOf n).2.length ≤ 1000000 := by
  have := Mx.lay_len n hw (by omega) 0 [⟨4, Mx.no, 0, 0⟩]
  unfold progOf
  simp only [List.length_singleton] at this
  omega

mutual
theorem leaves_of : (n : Rx.Nd) → anch n = false → Mx.Leaves (fun s => s.kind ≠ 2 ∧ s.kind ≠ 3) n
  | .empty, _ => by rw [Mx.Leaves]; trivial
  | .set h, _ => by rw [Mx.Leaves]; intro t; exact ⟨by simp, by simp⟩
  | .beg, h => by simp [anch] at h
  | .fin, h => by simp [anch] at h
  | .cat l, h => by rw [anch] at h; rw [Mx.Leaves]; exact leavess_of l h
  | .alt l, h => by rw [anch] at h; rw [Mx.Leaves]; exact leavess_of l h
  | .rep _ _ k, h => by rw [anch] at h; rw [Mx.Leaves]; exact leaves_of k h
theorem leavess_of : (l : List Rx.Nd) → anchs l = false → Mx.Leavess (fun s => s.kind ≠ 2 ∧ s.kind ≠ 3) l
  | [], _ => by rw [Mx.Leavess]; trivial
  | x :: r, h => by
    rw [anchs] at h
    obtain ⟨h1, h2⟩ := Bool.or_eq_false_iff.1 h
    rw [Mx.Leavess]
    exact ⟨leaves_of x h1, leavess_of r h2⟩
end
theorem plain_of {n : Rx.Nd} (h : anch n = false) : Mx.Plain (progOf n).2 := by
  refine Mx.lay_each (Q := fun s => s.kind ≠ 2 ∧ s.kind ≠ 3) ⟨fun s t h => h, fun a b => ⟨by simp, by simp⟩⟩ n (leaves_of n h) 0 _ fun s hs => ?_
  obtain rfl : s = ⟨4, Mx.no, 0, 0⟩ := by simpa using hs
  exact ⟨by decide, by decide⟩

theorem around_ahead {P : List Mx.St} {st : Nat} {b : Rx.Bytes} {x y : Nat} (c : UInt8) (hP : Mx.Plain P) (h : Mx.find P st b 0 = some (x, y)) : Mx.find P st (c :: b) 1 = some (x + 1, y + 1) :=
  Mx.findF_sh P hP st c b _ 0 x y _ h (by simp)
theorem around_behind {P : List Mx.St} {st : Nat} {b : Rx.Bytes} {x y : Nat} (more : Rx.Bytes) (hP : Mx.Plain P) (h : Mx.find P st b 0 = some (x, y)) : ∃ u v, Mx.find P st (b ++ more) 0 = some (u, v) ∧ u ≤ x ∧ (u < x ∨ y ≤ v) := by
  obtain ⟨u, v, h1, -, h3, h4⟩ := Mx.findF_more P hP st b more _ 0 x y ((b ++ more).length + 1) h (by simp)
  exact ⟨u, v, h1, h3, h4⟩

theorem run_nil (P : List Mx.St) (f : Nat) (now next : Mx.Run) (last : Option Nat) (h : ∀ z, last = some z → z = 0) : ∀ z, Mx.run P [] f 0 now next last = some z → z = 0 := by
  intro z hz
  cases f with
  | zero => exact h z hz
  | succ f =>
    unfold Mx.run at hz
    split at hz
    · exact h z hz
    · simp only [List.length_nil, if_true] at hz
      rcases Mx.round_ge P [] 0 now.l ⟨[], next.has⟩ last with h1 | h1
      · rw [h1] at hz; exact (Option.some.inj hz).symm
      · rw [h1] at hz; exact h z hz
theorem find_nil {P : List Mx.St} {st : Nat} {x y : Nat} (h : Mx.find P st [] 0 = some (x, y)) : x = y := by
  unfold Mx.find Mx.findF at h
  simp only [List.length_nil, Nat.lt_irrefl, if_false] at h
  cases hx : Mx.longest P st [] 0 with
  | none =>
    rw [hx] at h
    simp [Mx.findF] at h
  | some z =>
    rw [hx] at h
    simp only [Option.some.injEq, Prod.mk.injEq] at h
    have := run_nil P _ _ _ none (fun z h => by cases h) z hx
    omega

end Go.Proofs.YthdkbbkkijdhfaaGreatDoor
