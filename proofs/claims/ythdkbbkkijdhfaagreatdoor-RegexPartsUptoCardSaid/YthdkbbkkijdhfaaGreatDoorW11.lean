/-
  The walks of piece, escaped, join. Condition: what is told lies in memory.
-/
import Derived.Test.YthdkbbkkijdhfaaGreatDoorW10
namespace Go.Proofs.YthdkbbkkijdhfaaGreatDoor
open Go.RowKit Go.Shelf Go.Maps

theorem Go1.times {w wx : World} {r : Nat} {s : Rx.Bytes} {ext fold : Bool} (G : Go1 w wx r s ext fold) (x : Option (Option (Nat × Int) × Rx.Bytes)) (hx : Rx.times ext s = x) (hl : ∀ y s', x = some (y, s') → s'.length ≤ s.length) :
    Calls Tryz.prog 85 #[.pointer (some ⟨r, 0, none⟩)] wx fun e w' => match x with
      | none => e = .panicked [{ v := brokenV, recovered := false }] ∧ Kept (· = r) w w'
      | some (y, s') => e = .returned (timesVal y) ∧ Go1 w w' r s' ext fold := by
  refine (times_any r s ext fold wx G.rd).mono ?_
  rintro e w' ⟨h1, hk⟩
  unfold TimesPost at h1
  rw [hx] at h1
  cases x with
  | none => exact ⟨h1, G.kept.trans hk⟩
  | some y => obtain ⟨n, s'⟩ := y; exact ⟨h1.1, G.go h1.2 hk (hl n s' rfl)⟩

theorem times_len {ext : Bool} {s s' : Rx.Bytes} {y : Option (Nat × Int)} (h : Rx.times ext s = some (y, s')) : s'.length ≤ s.length := by
  unfold Rx.times at h
  simp only [] at h
  split at h
  · rename_i r hr; cases h; exact take_len hr
  · split at h
    · rename_i r hr
      cases h
      split at hr
      · exact take_len hr
      · cases hr
    · split at h
      · rename_i r hr
        cases h
        split at hr
        · exact take_len hr
        · cases hr
      · split at h
        · cases h; exact Nat.le_refl _
        · rename_i r hr
          have h0 := take_len hr
          split at h
          · cases h
          · rename_i m r1 hn
            have h1 := number_len hn
            split at h
            · rw [Option.map_eq_some_iff] at h
              obtain ⟨r2, h2, h3⟩ := h
              cases h3
              have := take_len h2; omega
            · rename_i r2 h2
              have h2 := take_len h2
              by_cases hp : (if ext then ([125] : Rx.Bytes) else [92, 125]).isPrefixOf r2 = true
              · rw [if_pos hp, Option.map_eq_some_iff] at h
                obtain ⟨r3, h3, h4⟩ := h
                cases h4
                have := take_len h3; omega
              · rw [if_neg hp] at h
                split at h
                · cases h
                · rename_i n r3 hn2
                  have := number_len hn2
                  split at h
                  · cases h
                  · rw [Option.map_eq_some_iff] at h
                    obtain ⟨r4, h4, h5⟩ := h
                    cases h5
                    have := take_len h4; omega

theorem number_le {s s' : Rx.Bytes} {n : Nat} (h : Rx.number s = some (n, s')) : n ≤ 255 := by
  unfold Rx.number at h
  simp only [] at h
  split at h
  · rename_i hc
    cases h
    simp only [Bool.and_eq_true, decide_eq_true_eq] at hc
    exact hc.2
  · cases h

/-- A repetition's numbers. -/
theorem times_ok {ext : Bool} {s s' : Rx.Bytes} {m : Nat} {most : Int} (h : Rx.times ext s = some (some (m, most), s')) : m ≤ 255 ∧ -1 ≤ most ∧ most ≤ 255 := by
  unfold Rx.times at h
  simp only [] at h
  split at h
  · cases h; decide
  · split at h
    · cases h; decide
    · split at h
      · cases h; decide
      · split at h
        · cases h
        · split at h
          · cases h
          · rename_i m r1 hn
            have h1 := number_le hn
            split at h
            · rw [Option.map_eq_some_iff] at h
              obtain ⟨r2, h2, h3⟩ := h
              cases h3
              omega
            · rename_i r2 h2
              by_cases hp : (if ext then ([125] : Rx.Bytes) else [92, 125]).isPrefixOf r2 = true
              · rw [if_pos hp, Option.map_eq_some_iff] at h
                obtain ⟨r3, h3, h4⟩ := h
                cases h4
                omega
              · rw [if_neg hp] at h
                split at h
                · cases h
                · rename_i n r3 hn2
                  have := number_le hn2
                  split at h
                  · cases h
                  · rw [Option.map_eq_some_iff] at h
                    obtain ⟨r4, h4, h5⟩ := h
                    cases h5
                    omega

theorem nd_new4 (a b c d : Value) : (((Tryz.zeroCells87.setIfInBounds 0 a).setIfInBounds 257 b).setIfInBounds 258 c).setIfInBounds 259 d = (a :: hasCells noHas ++ [b, c, d]).toArray := by
  kernel_rfl
theorem nd_new2 (kind : Int) (d : Value) : (Tryz.zeroCells87.setIfInBounds 0 (.int .i64 kind)).setIfInBounds 259 d = ndCells kind noHas 0 0 d := by
  kernel_rfl

set_option maxHeartbeats 1600000 in
set_option maxRecDepth 100000 in
theorem piece_any (r p B : Nat) (n : Rx.Nd) (anchor : Bool) (s : Rx.Bytes) (ext fold : Bool) (w : World) (hr : Rd w r s ext fold) (hn : NdAt w B p n) (hrB : r < B) (hBw : B ≤ w.heap.size) :
    Calls Tryz.prog 69 #[.pointer (some ⟨r, 0, none⟩), .pointer (some ⟨p, 0, none⟩), .bool anchor] w fun e w' => NodePost B r ext fold (Rx.piece ext n anchor s) e w' ∧ Kept (· = r) w w' := by
  have HP : Hid (∀ x, Rx.piece ext n anchor s = x → ∀ e w', NodePost B r ext fold x e w' → NodePost B r ext fold (Rx.piece ext n anchor s) e w') := by
    rintro x rfl e w' h; exact h
  generalize hpost : NodePost B r ext fold (Rx.piece ext n anchor s) = POST at HP ⊢
  clear hpost
  have G : Go1 w w r s ext fold := ⟨hr, Kept.refl _ _⟩
  have HN : Hid (∀ w', Kept (· = r) w w' → NdAt w' B p n) := fun w' hk => hn.kept hk (fun k hk e => by omega)
  clear hr hn
  go_enter Tryz.func69, Tryz.ntmps69
  rcases ht : Rx.times ext s with _ | ⟨_ | ⟨m, most⟩, s1⟩
  · have hc := G.times _ ht (fun y s' h => by cases h)
    have HX : Hid (Rx.piece ext n anchor s = none) := by show _ = _; unfold Rx.piece; rw [ht]
    go_wp2_with fail
    refine hc.mono ?_
    rintro e w' ⟨rfl, hk⟩
    clear hc ht
    go_wp2_with fail
    exact ⟨rfl, HP.out _ HX.out _ _ rfl, hk⟩
  · have hc := G.times _ ht (fun y s' h => by cases h; exact times_len ht)
    have HX : Hid (Rx.piece ext n anchor s = some (n, s1)) := by show _ = _; unfold Rx.piece; rw [ht]
    unfold timesVal at hc
    go_wp2_with fail
    refine hc.mono ?_
    rintro e w' ⟨rfl, G1⟩
    clear hc ht
    go_wp2_with fail
    go_ret
    exact ⟨HP.out _ HX.out _ _ ⟨p, rfl, G1.rd.at_, HN.out _ G1.kept⟩, G1.kept⟩
  · have hc := G.times _ ht (fun y s' h => by cases h; exact times_len ht)
    have HX : Hid (Rx.piece ext n anchor s = match Rx.times ext s1 with
      | some (none, s2) => if anchor then none else some (.rep m most n, s2)
      | _ => none) := by show _ = _; unfold Rx.piece; rw [ht]; rfl
    have HMM := Lib.hid (times_ok ht)
    unfold timesVal at hc
    go_wp2_with fail
    refine hc.mono ?_
    rintro e w' ⟨rfl, G1⟩
    clear hc ht
    rcases ht : Rx.times ext s1 with _ | ⟨_ | ⟨m2, most2⟩, s2⟩
    · have hc := G1.times _ ht (fun y s' h => by cases h)
      rw [ht] at HX
      go_wp2_with fail
      refine hc.mono ?_
      rintro e w' ⟨rfl, hk⟩
      clear hc ht
      go_wp2_with fail
      exact ⟨rfl, HP.out _ HX.out _ _ rfl, hk⟩
    · have hc := G1.times _ ht (fun y s' h => by cases h; exact times_len ht)
      rw [ht] at HX
      unfold timesVal at hc
      cases anchor with
      | true =>
        go_wp2_with fail
        refine hc.mono ?_
        rintro e w' ⟨rfl, G2⟩
        clear hc ht
        go_wp2_with fail
        refine (fail_any _).mono ?_
        rintro e w3 ⟨rfl, rfl⟩
        go_wp2_with fail
        exact ⟨rfl, HP.out _ HX.out _ _ rfl, G2.kept⟩
      | false =>
        go_wp2_with fail
        refine hc.mono ?_
        rintro e w' ⟨rfl, G2⟩
        clear hc ht
        go_wp2_with fail
        rw [nd_new4]
        have hq := Blk.new w' #[.pointer (some ⟨p, 0, none⟩)] 45
        have hbl : Below w'.heap.size w' (w'.alloc (.cells #[.pointer (some ⟨p, 0, none⟩)] 45)) := (Below.refl _ _).alloc (Nat.le_refl _) _
        have hsz : (w'.alloc (.cells #[.pointer (some ⟨p, 0, none⟩)] 45)).heap.size = w'.heap.size + 1 := by simp
        have hw' := G2.kept.size
        generalize w'.alloc (.cells #[.pointer (some ⟨p, 0, none⟩)] 45) = w2 at *
        rw [← hsz]
        have hb := Blk.new w2 (ndCells 6 noHas m most (.slice (some ⟨w'.heap.size, 0, none⟩) 1 1)) 87
        have hk2 : Kept (fun _ => False) w' (w2.alloc (.cells (ndCells 6 noHas m most (.slice (some ⟨w'.heap.size, 0, none⟩) 1 1)) 87)) := (Kept.of_below hbl).alloc _
        have hq2 := hq.alloc (.cells (ndCells 6 noHas m most (.slice (some ⟨w'.heap.size, 0, none⟩) 1 1)) 87)
        go_ret
        have hK : Kept (· = r) w _ := G2.kept.trans (hk2.mono fun _ _ h => h.elim)
        refine ⟨HP.out _ HX.out _ _ ⟨w2.heap.size, rfl, G2.rd.at_.kept hk2 id, ?_⟩, hK⟩
        refine .rep (by omega) hb (by omega) (q := p) ?_ (HN.out _ hK) HMM.out
        intro i hi
        obtain rfl : i = 0 := by simp at hi; exact hi
        exact hq2.cell 0 rfl
    · have hc := G1.times _ ht (fun y s' h => by cases h; exact times_len ht)
      rw [ht] at HX
      unfold timesVal at hc
      go_wp2_with fail
      refine hc.mono ?_
      rintro e w' ⟨rfl, G2⟩
      clear hc ht
      go_wp2_with fail
      refine (fail_any _).mono ?_
      rintro e w3 ⟨rfl, rfl⟩
      go_wp2_with fail
      exact ⟨rfl, HP.out _ HX.out _ _ rfl, G2.kept⟩

end Go.Proofs.YthdkbbkkijdhfaaGreatDoor
