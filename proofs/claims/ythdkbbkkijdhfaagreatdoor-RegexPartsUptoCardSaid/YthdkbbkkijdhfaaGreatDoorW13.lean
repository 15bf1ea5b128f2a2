/-
  The walk of atom, given that of branches. Condition: what is told lies in memory.
-/
import Derived.Test.YthdkbbkkijdhfaaGreatDoorW12
namespace Go.Proofs.YthdkbbkkijdhfaaGreatDoor
open Go.RowKit Go.Shelf Go.Maps

theorem parts_len (f : Nat) : ∀ (first : Bool) (h h' : Rx.Has) (s s' : Rx.Bytes), Rx.parts f first h s = some (h', s') → s'.length ≤ s.length := by
  induction f with
  | zero => intro first h h' s s' e; simp [Rx.parts] at e
  | succ f ih =>
    intro first h h' s s' e
    unfold Rx.parts at e
    split at e
    · cases e; exact Nat.le_refl _
    · split at e
      · cases e
      · split at e
        · cases e
        · rename_i h2 s2 hp
          have h1 := part_len hp
          have h2 := ih _ _ _ _ _ e
          omega
theorem bracket_len {fold : Bool} {s s' : Rx.Bytes} {n : Rx.Nd} (h : Rx.bracket fold s = some (n, s')) : s'.length ≤ s.length := by
  unfold Rx.bracket at h
  simp only [] at h
  split at h
  · cases h
  · rename_i g s2 hp
    have h1 := parts_len _ _ _ _ _ _ hp
    split at h
    · cases h
    · rename_i s3 ht
      cases h
      have h2 := take_len ht
      have h3 : (if (s.head? == some 94) = true then s.tail else s).length ≤ s.length := by split <;> simp
      omega
theorem escaped_len {fold : Bool} {no s s' : Rx.Bytes} {n : Rx.Nd} (h : Rx.escaped fold no s = some (n, s')) : s'.length ≤ s.length := by
  unfold Rx.escaped at h
  split at h
  · cases h
  · split at h
    · cases h
    · cases h; simp
theorem piece_len {ext : Bool} {n n' : Rx.Nd} {a : Bool} {s s' : Rx.Bytes} (h : Rx.piece ext n a s = some (n', s')) : s'.length ≤ s.length := by
  unfold Rx.piece at h
  split at h
  · cases h
  · rename_i s1 ht; cases h; exact times_len ht
  · rename_i m most s1 ht
    have h1 := times_len ht
    split at h
    · rename_i s2 ht2
      have h2 := times_len ht2
      split at h
      · cases h
      · cases h; omega
    · cases h

theorem ext_lens (fold : Bool) (f : Nat) : (∀ s l s', Rx.branches fold f s = some (l, s') → s'.length ≤ s.length) ∧ (∀ s l s', Rx.branch fold f s = some (l, s') → s'.length ≤ s.length) ∧ (∀ s n s', Rx.atom fold f s = some (n, s') → s'.length < s.length) := by
  induction f with
  | zero => exact ⟨fun s l s' h => by simp [Rx.branches] at h, fun s l s' h => by simp [Rx.branch] at h, fun s n s' h => by simp [Rx.atom] at h⟩
  | succ f ih =>
    obtain ⟨i1, i2, i3⟩ := ih
    refine ⟨fun s l s' h => ?_, fun s l s' h => ?_, fun s n s' h => ?_⟩
    · unfold Rx.branches at h
      split at h
      · cases h
      · cases h
      · rename_i l1 s1 _ hb
        have h1 := i2 _ _ _ hb
        split at h
        · cases h; exact h1
        · rename_i s2 ht
          have h2 := take_len ht
          rw [Option.map_eq_some_iff] at h
          obtain ⟨x, hx, e⟩ := h
          cases e
          have := i1 _ _ _ hx
          omega
    · unfold Rx.branch at h
      split at h
      · cases h; exact Nat.le_refl _
      · split at h
        · cases h
        · rename_i a s1 ha
          have h1 := i3 _ _ _ ha
          split at h
          · cases h
          · rename_i p s2 hp
            have h2 := piece_len hp
            rw [Option.map_eq_some_iff] at h
            obtain ⟨x, hx, e⟩ := h
            cases e
            have := i2 _ _ _ hx
            omega
    · unfold Rx.atom at h
      split at h
      · cases h
      · rename_i c t
        split at h
        · split at h
          · cases h
          · rename_i l s1 hb
            have h1 := i1 _ _ _ hb
            rw [Option.map_eq_some_iff] at h
            obtain ⟨x, hx, e⟩ := h
            cases e
            have := take_len hx
            simp; omega
        · split at h
          · have := bracket_len h; simp; omega
          · split at h
            · cases h; simp
            · split at h
              · cases h; simp
              · split at h
                · cases h; simp
                · split at h
                  · have := escaped_len h; simp; omega
                  · split at h
                    · cases h
                    · cases h; simp

def AtomC (fold : Bool) (L : Nat) : Prop := ∀ (s : Rx.Bytes), s.length ≤ L → ∀ f, 3 * s.length + 1 ≤ f → ∀ (r : Nat) (w : World), Rd w r s true fold →
  Calls Tryz.prog 82 #[.pointer (some ⟨r, 0, none⟩)] w fun e w' => NodePost w.heap.size r true fold (Rx.atom fold f s) e w' ∧ Kept (· = r) w w'
/-- A branch, joined. -/
def branchN (fold : Bool) (f : Nat) (s : Rx.Bytes) : Option (Rx.Nd × Rx.Bytes) := match Rx.branch fold f s with
  | none => none
  | some ([], _) => none
  | some (l, s') => some (Rx.joinN .cat l, s')
def BranchC (fold : Bool) (L : Nat) : Prop := ∀ (s : Rx.Bytes), s.length ≤ L → ∀ f, 3 * s.length + 2 ≤ f → ∀ (r : Nat) (w : World), Rd w r s true fold →
  Calls Tryz.prog 65 #[.pointer (some ⟨r, 0, none⟩)] w fun e w' => NodePost w.heap.size r true fold (branchN fold f s) e w' ∧ Kept (· = r) w w'
/-- Branches, joined. -/
def branchesN (fold : Bool) (f : Nat) (s : Rx.Bytes) : Option (Rx.Nd × Rx.Bytes) := (Rx.branches fold f s).map fun x => (Rx.joinN .alt x.1, x.2)
def BranchesC (fold : Bool) (L : Nat) : Prop := ∀ (s : Rx.Bytes), s.length ≤ L → ∀ f, 3 * s.length + 3 ≤ f → ∀ (r : Nat) (w : World), Rd w r s true fold →
  Calls Tryz.prog 53 #[.pointer (some ⟨r, 0, none⟩)] w fun e w' => NodePost w.heap.size r true fold (branchesN fold f s) e w' ∧ Kept (· = r) w w'

theorem u8_ne {c : UInt8} {k : UInt8} (h : ¬ c = k) : ¬ ((c.toNat : Int) = (k.toNat : Int)) := fun e => h (by rw [u8_eq]; exact e)

set_option maxHeartbeats 3200000 in
set_option maxRecDepth 100000 in
theorem atom_any (fold : Bool) (L : Nat) (hB : ∀ L', L' < L → BranchesC fold L') : AtomC fold L := by
  intro s hsL f hf r w hr
  obtain ⟨f, rfl⟩ : ∃ g, f = g + 1 := ⟨f - 1, by omega⟩
  have HP : Hid (∀ x, Rx.atom fold (f + 1) s = x → ∀ e w', NodePost w.heap.size r true fold x e w' → NodePost w.heap.size r true fold (Rx.atom fold (f + 1) s) e w') := by
    rintro x rfl e w' h; exact h
  generalize hpost : NodePost w.heap.size r true fold (Rx.atom fold (f + 1) s) = POST at HP ⊢
  clear hpost
  have G : Go1 w w r s true fold := ⟨hr, Kept.refl _ _⟩
  have hx := G.next
  cases s with
  | nil =>
    have HX : Hid (Rx.atom fold (f + 1) [] = none) := by show _ = _; rfl
    clear hr
    go_enter Tryz.func82, Tryz.ntmps82
    go_wp2_with fail
    refine hx.mono ?_
    rintro e w' ⟨rfl, hk⟩
    go_wp2_with fail
    exact ⟨rfl, HP.out _ HX.out _ _ rfl, hk⟩
  | cons c t =>
    simp only [List.length_cons] at hsL hf
    have HBs : Hid (BranchesC fold t.length) := by show BranchesC _ _; exact hB _ (by omega)
    clear hr hB
    go_enter Tryz.func82, Tryz.ntmps82
    go_wp2_with fail
    refine hx.mono ?_
    rintro e w1 ⟨rfl, G1⟩
    have hsz := G1.kept.size
    clear hx G
    by_cases h40 : c = 40
    · subst h40
      have hb := HBs.out t (Nat.le_refl _) f (by omega) r w1 G1.rd
      have HX : Hid (Rx.atom fold (f + 1) (40 :: t) = match branchesN fold f t with
        | none => none
        | some (n, s1) => (Rx.take [41] s1).map fun s2 => (n, s2)) := by
        show _ = _
        unfold branchesN
        simp only [Rx.atom, if_pos]
        rcases Rx.branches fold f t with _ | ⟨l, s1⟩ <;> rfl
      rcases hbn : branchesN fold f t with _ | ⟨n, s1⟩
      · rw [hbn] at hb HX
        clear hbn
        go_wp2_with fail
        refine hb.mono ?_
        rintro e w2 ⟨rfl, hk⟩
        go_wp2_with fail
        exact ⟨rfl, HP.out _ HX.out _ _ rfl, G1.kept.trans hk⟩
      · have hl1 : s1.length ≤ t.length := by
          unfold branchesN at hbn
          rw [Option.map_eq_some_iff] at hbn
          obtain ⟨x, hx, e⟩ := hbn
          cases e
          exact (ext_lens fold f).1 _ _ _ hx
        rw [hbn] at hb HX
        clear hbn
        go_wp2_with fail
        refine hb.mono ?_
        rintro e w2 ⟨⟨p, rfl, hr2, hn2⟩, hk⟩
        have G2 := G1.go hr2 hk hl1
        have hrlt := G1.rd.lt
        clear hb hr2
        rcases htk : Rx.take [41] s1 with _ | s2
        · have hm := G2.must [41] _ htk
          rw [htk] at HX
          go_wp2_with fail
          refine hm.mono ?_
          rintro e w3 ⟨rfl, hk3⟩
          clear hm htk
          go_wp2_with fail
          exact ⟨rfl, HP.out _ HX.out _ _ rfl, hk3⟩
        · have hm := must_any r [41] s1 true fold w2 G2.rd.at_
          unfold MustPost at hm
          rw [htk] at HX hm
          go_wp2_with fail
          refine hm.mono ?_
          rintro e w3 ⟨⟨rfl, hr3⟩, hk3⟩
          clear hm htk
          go_wp2_with fail
          go_ret
          exact ⟨HP.out _ HX.out _ _ ⟨p, rfl, hr3, (hn2.kept hk3 fun k hk e => by omega).mono fun k hk => by omega⟩, G2.kept.trans hk3⟩
    clear HBs
    by_cases h91 : c = 91
    · subst h91
      have HX : Hid (Rx.atom fold (f + 1) (91 :: t) = Rx.bracket fold t) := by show _ = _; simp [Rx.atom]
      have hb := bracket_any r t true fold w1 G1.rd
      go_wp2_with fail
      refine hb.mono ?_
      rintro e w2 ⟨hp, hk⟩
      cases hbn : Rx.bracket fold t with
      | none =>
        rw [hbn] at hp
        have hp : e = _ := hp
        subst hp
        have HX2 := HX.out.trans hbn
        have HX3 := Lib.hid HX2
        clear hbn hb HX HX2
        go_wp2_with fail
        exact ⟨rfl, HP.out _ HX3.out _ _ rfl, G1.kept.trans hk⟩
      | some x =>
        obtain ⟨n, s1⟩ := x
        rw [hbn] at hp
        obtain ⟨p, rfl, hr2, hn2⟩ := hp
        have HX2 := HX.out.trans hbn
        have HX3 := Lib.hid HX2
        clear hbn hb HX HX2
        go_wp2_with fail
        go_ret
        exact ⟨HP.out _ HX3.out _ _ ⟨p, rfl, hr2, hn2.mono fun k hk => by omega⟩, G1.kept.trans hk⟩
    by_cases h46 : c = 46
    · subst h46
      have HX : Hid (Rx.atom fold (f + 1) (46 :: t) = some (Rx.dot, t)) := by show _ = _; simp [Rx.atom]
      go_wp2_with fail
      refine (dot_any _).mono ?_
      rintro e w2 ⟨rfl, hb, hbl⟩
      go_wp2_with fail
      go_ret
      exact ⟨HP.out _ HX.out _ _ ⟨w1.heap.size, rfl, G1.rd.at_.keep hbl G1.rd.lt, .set hsz hb⟩, G1.kept.trans (Kept.of_below hbl)⟩
    by_cases h94 : c = 94
    · subst h94
      have HX : Hid (Rx.atom fold (f + 1) (94 :: t) = some (.beg, t)) := by show _ = _; simp [Rx.atom]
      go_wp2_with fail
      rw [nd_new]
      go_ret
      exact ⟨HP.out _ HX.out _ _ ⟨w1.heap.size, rfl, G1.rd.at_.alloc _, .beg hsz (Blk.new _ _ _)⟩, G1.kept.alloc _⟩
    by_cases h36 : c = 36
    · subst h36
      have HX : Hid (Rx.atom fold (f + 1) (36 :: t) = some (.fin, t)) := by show _ = _; simp [Rx.atom]
      go_wp2_with fail
      rw [nd_new]
      go_ret
      exact ⟨HP.out _ HX.out _ _ ⟨w1.heap.size, rfl, G1.rd.at_.alloc _, .fin hsz (Blk.new _ _ _)⟩, G1.kept.alloc _⟩
    by_cases h92 : c = 92
    · subst h92
      have HX : Hid (Rx.atom fold (f + 1) (92 :: t) = Rx.escaped fold [] t) := by show _ = _; simp [Rx.atom]
      have hb := escaped_any r [] t true fold w1 G1.rd
      go_wp2_with fail
      refine hb.mono ?_
      rintro e w2 ⟨hp, hk⟩
      cases hbn : Rx.escaped fold [] t with
      | none =>
        rw [hbn] at hp
        have hp : e = _ := hp
        subst hp
        have HX3 := Lib.hid (HX.out.trans hbn)
        clear hbn hb HX
        go_wp2_with fail
        exact ⟨rfl, HP.out _ HX3.out _ _ rfl, G1.kept.trans hk⟩
      | some x =>
        obtain ⟨n, s1⟩ := x
        rw [hbn] at hp
        obtain ⟨p, rfl, hr2, hn2⟩ := hp
        have HX3 := Lib.hid (HX.out.trans hbn)
        clear hbn hb HX
        go_wp2_with fail
        go_ret
        exact ⟨HP.out _ HX3.out _ _ ⟨p, rfl, hr2, hn2.mono fun k hk => by omega⟩, G1.kept.trans hk⟩
    by_cases h42 : c = 42
    · subst h42
      have HX : Hid (Rx.atom fold (f + 1) (42 :: t) = none) := by show _ = _; simp [Rx.atom]
      go_wp2_with fail
      refine (fail_any _).mono ?_
      rintro e w2 ⟨rfl, rfl⟩
      go_wp2_with fail
      exact ⟨rfl, HP.out _ HX.out _ _ rfl, G1.kept⟩
    by_cases h43 : c = 43
    · subst h43
      have HX : Hid (Rx.atom fold (f + 1) (43 :: t) = none) := by show _ = _; simp [Rx.atom]
      go_wp2_with fail
      refine (fail_any _).mono ?_
      rintro e w2 ⟨rfl, rfl⟩
      go_wp2_with fail
      exact ⟨rfl, HP.out _ HX.out _ _ rfl, G1.kept⟩
    by_cases h63 : c = 63
    · subst h63
      have HX : Hid (Rx.atom fold (f + 1) (63 :: t) = none) := by show _ = _; simp [Rx.atom]
      go_wp2_with fail
      refine (fail_any _).mono ?_
      rintro e w2 ⟨rfl, rfl⟩
      go_wp2_with fail
      exact ⟨rfl, HP.out _ HX.out _ _ rfl, G1.kept⟩
    by_cases h123 : c = 123
    · subst h123
      have HX : Hid (Rx.atom fold (f + 1) (123 :: t) = none) := by show _ = _; simp [Rx.atom]
      go_wp2_with fail
      refine (fail_any _).mono ?_
      rintro e w2 ⟨rfl, rfl⟩
      go_wp2_with fail
      exact ⟨rfl, HP.out _ HX.out _ _ rfl, G1.kept⟩
    have HX : Hid (Rx.atom fold (f + 1) (c :: t) = some (Rx.one fold c, t)) := by show _ = _; simp [Rx.atom, h40, h91, h46, h94, h36, h92, h42, h43, h63, h123]
    have g40 : ¬ ((c.toNat : Int) = 40) := u8_ne h40
    have g91 : ¬ ((c.toNat : Int) = 91) := u8_ne h91
    have g46 : ¬ ((c.toNat : Int) = 46) := u8_ne h46
    have g94 : ¬ ((c.toNat : Int) = 94) := u8_ne h94
    have g36 : ¬ ((c.toNat : Int) = 36) := u8_ne h36
    have g92 : ¬ ((c.toNat : Int) = 92) := u8_ne h92
    have g42 : ¬ ((c.toNat : Int) = 42) := u8_ne h42
    have g43 : ¬ ((c.toNat : Int) = 43) := u8_ne h43
    have g63 : ¬ ((c.toNat : Int) = 63) := u8_ne h63
    have g123 : ¬ ((c.toNat : Int) = 123) := u8_ne h123
    clear h40 h91 h46 h94 h36 h92 h42 h43 h63 h123
    go_wp2_with fail
    refine (one_any r c t true fold _ G1.rd.at_).mono ?_
    rintro e w3 ⟨rfl, hb, hbl⟩
    go_wp2_with fail
    go_ret
    have := NodePost.one (B := w.heap.size) G1 G1.kept.size hb hbl
    exact ⟨HP.out _ HX.out _ _ this.1, this.2⟩

end Go.Proofs.YthdkbbkkijdhfaaGreatDoor
