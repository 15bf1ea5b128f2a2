/-
  The walk of plain, given that of pieces. Condition: what is told lies in memory.
-/
import Derived.Test.YthdkbbkkijdhfaaGreatDoorW14
namespace Go.Proofs.YthdkbbkkijdhfaaGreatDoor
open Go.RowKit Go.Shelf Go.Maps

theorem bas_lens (fold : Bool) (f : Nat) : (∀ s free l s', Rx.pieces fold f free s = some (l, s') → s'.length ≤ s.length) ∧ (∀ s n s', Rx.basic fold f s = some (n, s') → s'.length ≤ s.length) ∧ (∀ s n s', Rx.plain fold f s = some (n, s') → s'.length < s.length) := by
  induction f with
  | zero => exact ⟨fun s fr l s' h => by simp [Rx.pieces] at h, fun s l s' h => by simp [Rx.basic] at h, fun s n s' h => by simp [Rx.plain] at h⟩
  | succ f ih =>
    obtain ⟨i1, i2, i3⟩ := ih
    refine ⟨fun s free l s' h => ?_, fun s n s' h => ?_, fun s n s' h => ?_⟩
    · unfold Rx.pieces at h
      split at h
      · cases h; exact Nat.le_refl _
      · split at h
        · rw [Option.map_eq_some_iff] at h
          obtain ⟨x, hx, e⟩ := h
          cases e
          have := i1 _ _ _ _ hx
          have h2 : s.tail.length ≤ s.length := by simp
          omega
        · split at h
          · cases h
          · split at h
            · cases h
            · rename_i a s1 ha
              have h1 := i3 _ _ _ ha
              split at h
              · cases h
              · rename_i p s2 hp
                have h2 := piece_len hp
                rw [Option.map_eq_some_iff] at h
                obtain ⟨x, hx, e⟩ := h
                cases e
                have := i1 _ _ _ _ hx
                omega
    · unfold Rx.basic at h
      split at h
      · rename_i r hr
        have h1 := take_len hr
        rw [Option.map_eq_some_iff] at h
        obtain ⟨x, hx, e⟩ := h
        cases e
        have := i1 _ _ _ _ hx
        omega
      · rw [Option.map_eq_some_iff] at h
        obtain ⟨x, hx, e⟩ := h
        cases e
        exact i1 _ _ _ _ hx
    · unfold Rx.plain at h
      split at h
      · rename_i r hr
        have h1 := take_lt hr (by decide)
        split at h
        · cases h
        · rename_i n1 s1 hb
          have h2 := i2 _ _ _ hb
          rw [Option.map_eq_some_iff] at h
          obtain ⟨x, hx, e⟩ := h
          cases e
          have := take_len hx
          omega
      · split at h
        · rename_i r hr
          have h1 := take_lt hr (by decide)
          have := bracket_len h; omega
        · split at h
          · rename_i r hr
            have h1 := take_lt hr (by decide)
            cases h; exact h1
          · split at h
            · rename_i r hr
              have h1 := take_lt hr (by decide)
              have := escaped_len h; omega
            · split at h
              · cases h
              · cases h; simp

def PlainC (fold : Bool) (L : Nat) : Prop := ∀ (s : Rx.Bytes), s.length ≤ L → ∀ f, 3 * s.length + 1 ≤ f → ∀ (r : Nat) (w : World), Rd w r s false fold →
  Calls Tryz.prog 70 #[.pointer (some ⟨r, 0, none⟩)] w fun e w' => NodePost w.heap.size r false fold (Rx.plain fold f s) e w' ∧ Kept (· = r) w w'
def BasicC (fold : Bool) (L : Nat) : Prop := ∀ (s : Rx.Bytes), s.length ≤ L → ∀ f, 3 * s.length + 3 ≤ f → ∀ (r : Nat) (w : World), Rd w r s false fold →
  Calls Tryz.prog 54 #[.pointer (some ⟨r, 0, none⟩)] w fun e w' => NodePost w.heap.size r false fold (Rx.basic fold f s) e w' ∧ Kept (· = r) w w'

/-- plain, unfolded once. -/
def plainStep (fold : Bool) (f : Nat) (s : Rx.Bytes) : Option (Rx.Nd × Rx.Bytes) := match Rx.take [92, 40] s with
  | some r => (match Rx.basic fold f r with
    | none => none
    | some (n, s1) => (Rx.take [92, 41] s1).map fun s2 => (n, s2))
  | none => match Rx.take [91] s with
    | some r => Rx.bracket fold r
    | none => match Rx.take [46] s with
      | some r => some (Rx.dot, r)
      | none => match Rx.take [92] s with
        | some r => Rx.escaped fold [41, 123, 125] r
        | none => match s with
          | [] => none
          | c :: r => some (Rx.one fold c, r)
theorem plain_step (fold : Bool) (f : Nat) (s : Rx.Bytes) : Rx.plain fold (f + 1) s = plainStep fold f s := by
  rw [Rx.plain.eq_def]
  rfl

set_option maxHeartbeats 3200000 in
set_option maxRecDepth 100000 in
theorem plain_any (fold : Bool) (L : Nat) (hB : ∀ L', L' < L → BasicC fold L') : PlainC fold L := by
  intro s hsL f hf r w hr
  obtain ⟨f, rfl⟩ : ∃ g, f = g + 1 := ⟨f - 1, by omega⟩
  have HP : Hid (∀ x, Rx.plain fold (f + 1) s = x → ∀ e w', NodePost w.heap.size r false fold x e w' → NodePost w.heap.size r false fold (Rx.plain fold (f + 1) s) e w') := by
    rintro x rfl e w' h; exact h
  have HE : Hid (Rx.plain fold (f + 1) s = plainStep fold f s) := plain_step fold f s
  unfold plainStep at HE
  generalize hpost : NodePost w.heap.size r false fold (Rx.plain fold (f + 1) s) = POST at HP ⊢
  clear hpost
  have G : Go1 w w r s false fold := ⟨hr, Kept.refl _ _⟩
  have HBs := Lib.hid hB
  clear hr hB
  go_enter Tryz.func70, Tryz.ntmps70
  cases h1 : Rx.take [92, 40] s with
  | some u =>
    have hc := G.take [92, 40] _ h1
    have hu := take_lt h1 (by decide)
    rw [h1] at HE
    simp only [] at HE
    go_wp2_with fail
    refine hc.mono ?_
    rintro e w1 ⟨rfl, G1⟩
    clear hc h1 G
    simp only [Option.getD_some] at G1
    have hb := HBs.out (L - 1) (by omega) u (by omega) f (by omega) r w1 G1.rd
    have hsz := G1.kept.size
    rcases hbn : Rx.basic fold f u with _ | ⟨n, s1⟩
    · rw [hbn] at hb HE
      clear hbn
      go_wp2_with fail
      refine hb.mono ?_
      rintro e w2 ⟨rfl, hk⟩
      go_wp2_with fail
      exact ⟨rfl, HP.out _ HE.out _ _ rfl, G1.kept.trans hk⟩
    · have hl1 := (bas_lens fold f).2.1 _ _ _ hbn
      rw [hbn] at hb HE
      clear hbn
      go_wp2_with fail
      refine hb.mono ?_
      rintro e w2 ⟨⟨p, rfl, hr2, hn2⟩, hk⟩
      have G2 := G1.go hr2 hk hl1
      have hrlt := G1.rd.lt
      clear hb hr2
      rcases htk : Rx.take [92, 41] s1 with _ | s2
      · have hm := G2.must [92, 41] _ htk
        rw [htk] at HE
        go_wp2_with fail
        refine hm.mono ?_
        rintro e w3 ⟨rfl, hk3⟩
        clear hm htk
        go_wp2_with fail
        exact ⟨rfl, HP.out _ HE.out _ _ rfl, hk3⟩
      · have hm := must_any r [92, 41] s1 false fold w2 G2.rd.at_
        unfold MustPost at hm
        rw [htk] at HE hm
        go_wp2_with fail
        refine hm.mono ?_
        rintro e w3 ⟨⟨rfl, hr3⟩, hk3⟩
        clear hm htk
        go_wp2_with fail
        go_ret
        exact ⟨HP.out _ HE.out _ _ ⟨p, rfl, hr3, (hn2.kept hk3 fun k hk e => by omega).mono fun k hk => by omega⟩, G2.kept.trans hk3⟩
  | none =>
  have hc := G.take [92, 40] _ h1
  rw [h1] at HE
  simp only [] at HE
  clear HBs
  go_wp2_with fail
  refine hc.mono ?_
  rintro e w1 ⟨rfl, G1⟩
  clear hc h1 G
  simp only [Option.getD_none] at G1
  cases h2 : Rx.take [91] s with
  | some u =>
    have hc := G1.take [91] _ h2
    rw [h2] at HE
    simp only [] at HE
    go_wp2_with fail
    refine hc.mono ?_
    rintro e w2 ⟨rfl, G2⟩
    clear hc h2 G1
    simp only [Option.getD_some] at G2
    have hsz := G2.kept.size
    have hb := bracket_any r u false fold w2 G2.rd
    go_wp2_with fail
    refine hb.mono ?_
    rintro e w3 ⟨hp, hk⟩
    cases hbn : Rx.bracket fold u with
    | none =>
      rw [hbn] at hp HE
      have hp : e = _ := hp
      subst hp
      clear hbn hb
      go_wp2_with fail
      exact ⟨rfl, HP.out _ HE.out _ _ rfl, G2.kept.trans hk⟩
    | some x =>
      obtain ⟨n, s1⟩ := x
      rw [hbn] at hp HE
      obtain ⟨p, rfl, hr2, hn2⟩ := hp
      clear hbn hb
      go_wp2_with fail
      go_ret
      exact ⟨HP.out _ HE.out _ _ ⟨p, rfl, hr2, hn2.mono fun k hk => by omega⟩, G2.kept.trans hk⟩
  | none =>
  have hc := G1.take [91] _ h2
  rw [h2] at HE
  simp only [] at HE
  go_wp2_with fail
  refine hc.mono ?_
  rintro e w2 ⟨rfl, G2⟩
  clear hc h2 G1
  simp only [Option.getD_none] at G2
  cases h3 : Rx.take [46] s with
  | some u =>
    have hc := G2.take [46] _ h3
    rw [h3] at HE
    simp only [] at HE
    go_wp2_with fail
    refine hc.mono ?_
    rintro e w3 ⟨rfl, G3⟩
    clear hc h3 G2
    simp only [Option.getD_some] at G3
    go_wp2_with fail
    refine (dot_any _).mono ?_
    rintro e w4 ⟨rfl, hb, hbl⟩
    go_wp2_with fail
    go_ret
    exact ⟨HP.out _ HE.out _ _ ⟨w3.heap.size, rfl, G3.rd.at_.keep hbl G3.rd.lt, .set G3.kept.size hb⟩, G3.kept.trans (Kept.of_below hbl)⟩
  | none =>
  have hc := G2.take [46] _ h3
  rw [h3] at HE
  simp only [] at HE
  go_wp2_with fail
  refine hc.mono ?_
  rintro e w3 ⟨rfl, G3⟩
  clear hc h3 G2
  simp only [Option.getD_none] at G3
  cases h4 : Rx.take [92] s with
  | some u =>
    have hc := G3.take [92] _ h4
    rw [h4] at HE
    simp only [] at HE
    go_wp2_with fail
    refine hc.mono ?_
    rintro e w4 ⟨rfl, G4⟩
    clear hc h4 G3
    simp only [Option.getD_some] at G4
    have hsz := G4.kept.size
    have hb := escaped_any r [41, 123, 125] u false fold w4 G4.rd
    go_wp2_with fail
    refine hb.mono ?_
    rintro e w5 ⟨hp, hk⟩
    cases hbn : Rx.escaped fold [41, 123, 125] u with
    | none =>
      rw [hbn] at hp HE
      have hp : e = _ := hp
      subst hp
      clear hbn hb
      go_wp2_with fail
      exact ⟨rfl, HP.out _ HE.out _ _ rfl, G4.kept.trans hk⟩
    | some x =>
      obtain ⟨n, s1⟩ := x
      rw [hbn] at hp HE
      obtain ⟨p, rfl, hr2, hn2⟩ := hp
      clear hbn hb
      go_wp2_with fail
      go_ret
      exact ⟨HP.out _ HE.out _ _ ⟨p, rfl, hr2, hn2.mono fun k hk => by omega⟩, G4.kept.trans hk⟩
  | none =>
  have hc := G3.take [92] _ h4
  rw [h4] at HE
  simp only [] at HE
  go_wp2_with fail
  refine hc.mono ?_
  rintro e w4 ⟨rfl, G4⟩
  clear hc h4 G3
  simp only [Option.getD_none] at G4
  have hx := G4.next
  cases s with
  | nil =>
    have HE2 : Hid (Rx.plain fold (f + 1) [] = none) := HE.out
    clear HE
    go_wp2_with fail
    refine hx.mono ?_
    rintro e w5 ⟨rfl, hk⟩
    go_wp2_with fail
    exact ⟨rfl, HP.out _ HE2.out _ _ rfl, hk⟩
  | cons c t =>
    have HE2 : Hid (Rx.plain fold (f + 1) (c :: t) = some (Rx.one fold c, t)) := HE.out
    clear HE
    go_wp2_with fail
    refine hx.mono ?_
    rintro e w5 ⟨rfl, G5⟩
    clear hx
    go_wp2_with fail
    refine (one_any r c t false fold _ G5.rd.at_).mono ?_
    rintro e w6 ⟨rfl, hb, hbl⟩
    go_wp2_with fail
    go_ret
    have := NodePost.one (B := w.heap.size) G5 G5.kept.size hb hbl
    exact ⟨HP.out _ HE2.out _ _ this.1, this.2⟩

end Go.Proofs.YthdkbbkkijdhfaaGreatDoor
