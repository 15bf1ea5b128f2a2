/-
  Texts of this seat put together: W11, W12, W13.
-/
import Derived.Test.YthdkbbkkijdhfaaGreatDoorH8

/-
  The walks of piece, escaped, join. Condition: what is told lies in memory.
-/
namespace Go.Proofs.YthdkbbkkijdhfaaGreatDoor
open Go.RowKit Go.Shelf Go.Maps

theorem Go1.times {w wx : World} {r : Nat} {s : Rx.Bytes} {ext fold : Bool} (G : Go1 w wx r s ext fold) (x : Option (Option (Nat × Int) × Rx.Bytes)) (hx : Rx.times ext s = x) (hl : ∀ y s', x = some (y, s') → s'.length ≤ s.length) :
    Calls Tryz.prog 85 #[.pointer (some ⟨r, 0, none⟩)] wx fun e w' => match x with
      | none => e = .panicked [{ v := brokenV, recovered := false }] ∧ Kept (· = r) w w'
      | some (y, s') => e = .returned (timesVal y) ∧ Go1 w w' r s' ext fold := by
  refine (times_any r s ext fold wx G.rd).mono ?_
  rintro e w' ⟨h1, hk⟩
  unfold TimesPost at h1
  rw [hx] at h1
  cases x with
  | none => exact ⟨h1, G.kept.trans hk⟩
  | some y => obtain ⟨n, s'⟩ := y; exact ⟨h1.1, G.go h1.2 hk (hl n s' rfl)⟩

theorem times_len {ext : Bool} {s s' : Rx.Bytes} {y : Option (Nat × Int)} (h : Rx.times ext s = some (y, s')) : s'.length ≤ s.length := by
  unfold Rx.times at h
  simp only [] at h
  split at h
  · rename_i r hr; cases h; exact take_len hr
  · split at h
    · rename_i r hr
      cases h
      split at hr
      · exact take_len hr
      · cases hr
    · split at h
      · rename_i r hr
        cases h
        split at hr
        · exact take_len hr
        · cases hr
      · split at h
        · cases h; exact Nat.le_refl _
        · rename_i r hr
          have h0 := take_len hr
          split at h
          · cases h
          · rename_i m r1 hn
            have h1 := number_len hn
            split at h
            · rw [Option.map_eq_some_iff] at h
              obtain ⟨r2, h2, h3⟩ := h
              cases h3
              have := take_len h2; omega
            · rename_i r2 h2
              have h2 := take_len h2
              by_cases hp : (if ext then ([125] : Rx.Bytes) else [92, 125]).isPrefixOf r2 = true
              · rw [if_pos hp, Option.map_eq_some_iff] at h
                obtain ⟨r3, h3, h4⟩ := h
                cases h4
                have := take_len h3; omega
              · rw [if_neg hp] at h
                split at h
                · cases h
                · rename_i n r3 hn2
                  have := number_len hn2
                  split at h
                  · cases h
                  · rw [Option.map_eq_some_iff] at h
                    obtain ⟨r4, h4, h5⟩ := h
                    cases h5
                    have := take_len h4; omega

theorem number_le {s s' : Rx.Bytes} {n : Nat} (h : Rx.number s = some (n, s')) : n ≤ 255 := by
  unfold Rx.number at h
  simp only [] at h
  split at h
  · rename_i hc
    cases h
    simp only [Bool.and_eq_true, decide_eq_true_eq] at hc
    exact hc.2
  · cases h

/-- A repetition's numbers. -/
theorem times_ok {ext : Bool} {s s' : Rx.Bytes} {m : Nat} {most : Int} (h : Rx.times ext s = some (some (m, most), s')) : m ≤ 255 ∧ -1 ≤ most ∧ most ≤ 255 := by
  unfold Rx.times at h
  simp only [] at h
  split at h
  · cases h; decide
  · split at h
    · cases h; decide
    · split at h
      · cases h; decide
      · split at h
        · cases h
        · split at h
          · cases h
          · rename_i m r1 hn
            have h1 := number_le hn
            split at h
            · rw [Option.map_eq_some_iff] at h
              obtain ⟨r2, h2, h3⟩ := h
              cases h3
              omega
            · rename_i r2 h2
              by_cases hp : (if ext then ([125] : Rx.Bytes) else [92, 125]).isPrefixOf r2 = true
              · rw [if_pos hp, Option.map_eq_some_iff] at h
                obtain ⟨r3, h3, h4⟩ := h
                cases h4
                omega
              · rw [if_neg hp] at h
                split at h
                · cases h
                · rename_i n r3 hn2
                  have := number_le hn2
                  split at h
                  · cases h
                  · rw [Option.map_eq_some_iff] at h
                    obtain ⟨r4, h4, h5⟩ := h
                    cases h5
                    omega

theorem nd_new4 (a b c d : Value) : (((Tryz.zeroCells87.setIfInBounds 0 a).setIfInBounds 257 b).setIfInBounds 258 c).setIfInBounds 259 d = (a :: hasCells noHas ++ [b, c, d]).toArray := by
  kernel_rfl
theorem nd_new2 (kind : Int) (d : Value) : (Tryz.zeroCells87.setIfInBounds 0 (.int .i64 kind)).setIfInBounds 259 d = ndCells kind noHas 0 0 d := by
  kernel_rfl

set_option maxHeartbeats 1600000 in
set_option maxRecDepth 100000 in
theorem piece_any (r p B : Nat) (n : Rx.Nd) (anchor : Bool) (s : Rx.Bytes) (ext fold : Bool) (w : World) (hr : Rd w r s ext fold) (hn : NdAt w B p n) (hrB : r < B) (hBw : B ≤ w.heap.size) :
    Calls Tryz.prog 69 #[.pointer (some ⟨r, 0, none⟩), .pointer (some ⟨p, 0, none⟩), .bool anchor] w fun e w' => NodePost B r ext fold (Rx.piece ext n anchor s) e w' ∧ Kept (· = r) w w' := by
  have HP : Hid (∀ x, Rx.piece ext n anchor s = x → ∀ e w', NodePost B r ext fold x e w' → NodePost B r ext fold (Rx.piece ext n anchor s) e w') := by
    rintro x rfl e w' h; exact h
  generalize hpost : NodePost B r ext fold (Rx.piece ext n anchor s) = POST at HP ⊢
  clear hpost
  have G : Go1 w w r s ext fold := ⟨hr, Kept.refl _ _⟩
  have HN : Hid (∀ w', Kept (· = r) w w' → NdAt w' B p n) := fun w' hk => hn.kept hk (fun k hk e => by omega)
  clear hr hn
  go_enter Tryz.func69, Tryz.ntmps69
  rcases ht : Rx.times ext s with _ | ⟨_ | ⟨m, most⟩, s1⟩
  · have hc := G.times _ ht (fun y s' h => by cases h)
    have HX : Hid (Rx.piece ext n anchor s = none) := by show _ = _; unfold Rx.piece; rw [ht]
    go_wp2_with fail
    refine hc.mono ?_
    rintro e w' ⟨rfl, hk⟩
    clear hc ht
    go_wp2_with fail
    exact ⟨rfl, HP.out _ HX.out _ _ rfl, hk⟩
  · have hc := G.times _ ht (fun y s' h => by cases h; exact times_len ht)
    have HX : Hid (Rx.piece ext n anchor s = some (n, s1)) := by show _ = _; unfold Rx.piece; rw [ht]
    unfold timesVal at hc
    go_wp2_with fail
    refine hc.mono ?_
    rintro e w' ⟨rfl, G1⟩
    clear hc ht
    go_wp2_with fail
    go_ret
    exact ⟨HP.out _ HX.out _ _ ⟨p, rfl, G1.rd.at_, HN.out _ G1.kept⟩, G1.kept⟩
  · have hc := G.times _ ht (fun y s' h => by cases h; exact times_len ht)
    have HX : Hid (Rx.piece ext n anchor s = match Rx.times ext s1 with
      | some (none, s2) => if anchor then none else some (.rep m most n, s2)
      | _ => none) := by show _ = _; unfold Rx.piece; rw [ht]; rfl
    have HMM := Lib.hid (times_ok ht)
    unfold timesVal at hc
    go_wp2_with fail
    refine hc.mono ?_
    rintro e w' ⟨rfl, G1⟩
    clear hc ht
    rcases ht : Rx.times ext s1 with _ | ⟨_ | ⟨m2, most2⟩, s2⟩
    · have hc := G1.times _ ht (fun y s' h => by cases h)
      rw [ht] at HX
      go_wp2_with fail
      refine hc.mono ?_
      rintro e w' ⟨rfl, hk⟩
      clear hc ht
      go_wp2_with fail
      exact ⟨rfl, HP.out _ HX.out _ _ rfl, hk⟩
    · have hc := G1.times _ ht (fun y s' h => by cases h; exact times_len ht)
      rw [ht] at HX
      unfold timesVal at hc
      cases anchor with
      | true =>
        go_wp2_with fail
        refine hc.mono ?_
        rintro e w' ⟨rfl, G2⟩
        clear hc ht
        go_wp2_with fail
        refine (fail_any _).mono ?_
        rintro e w3 ⟨rfl, rfl⟩
        go_wp2_with fail
        exact ⟨rfl, HP.out _ HX.out _ _ rfl, G2.kept⟩
      | false =>
        go_wp2_with fail
        refine hc.mono ?_
        rintro e w' ⟨rfl, G2⟩
        clear hc ht
        go_wp2_with fail
        rw [nd_new4]
        have hq := Blk.new w' #[.pointer (some ⟨p, 0, none⟩)] 45
        have hbl : Below w'.heap.size w' (w'.alloc (.cells #[.pointer (some ⟨p, 0, none⟩)] 45)) := (Below.refl _ _).alloc (Nat.le_refl _) _
        have hsz : (w'.alloc (.cells #[.pointer (some ⟨p, 0, none⟩)] 45)).heap.size = w'.heap.size + 1 := by simp
        have hw' := G2.kept.size
        generalize w'.alloc (.cells #[.pointer (some ⟨p, 0, none⟩)] 45) = w2 at *
        rw [← hsz]
        have hb := Blk.new w2 (ndCells 6 noHas m most (.slice (some ⟨w'.heap.size, 0, none⟩) 1 1)) 87
        have hk2 : Kept (fun _ => False) w' (w2.alloc (.cells (ndCells 6 noHas m most (.slice (some ⟨w'.heap.size, 0, none⟩) 1 1)) 87)) := (Kept.of_below hbl).alloc _
        have hq2 := hq.alloc (.cells (ndCells 6 noHas m most (.slice (some ⟨w'.heap.size, 0, none⟩) 1 1)) 87)
        go_ret
        have hK : Kept (· = r) w _ := G2.kept.trans (hk2.mono fun _ _ h => h.elim)
        refine ⟨HP.out _ HX.out _ _ ⟨w2.heap.size, rfl, G2.rd.at_.kept hk2 id, ?_⟩, hK⟩
        refine .rep (by omega) hb (by omega) (q := p) ?_ (HN.out _ hK) HMM.out
        intro i hi
        obtain rfl : i = 0 := by simp at hi; exact hi
        exact hq2.cell 0 rfl
    · have hc := G1.times _ ht (fun y s' h => by cases h; exact times_len ht)
      rw [ht] at HX
      unfold timesVal at hc
      go_wp2_with fail
      refine hc.mono ?_
      rintro e w' ⟨rfl, G2⟩
      clear hc ht
      go_wp2_with fail
      refine (fail_any _).mono ?_
      rintro e w3 ⟨rfl, rfl⟩
      go_wp2_with fail
      exact ⟨rfl, HP.out _ HX.out _ _ rfl, G2.kept⟩

end Go.Proofs.YthdkbbkkijdhfaaGreatDoor

/-
  The walks of escaped, join. Condition: what is told lies in memory.
-/
namespace Go.Proofs.YthdkbbkkijdhfaaGreatDoor
open Go.RowKit Go.Shelf Go.Maps

theorem idx_contains (l : List UInt8) (c : UInt8) : (0 ≤ Lib.indexByte l c) ↔ l.contains c = true := by
  induction l with
  | nil => simp [Lib.indexByte]
  | cons b r ih =>
    have hge := Lib.indexByte_ge r c
    unfold Lib.indexByte
    by_cases h : b = c
    · subst h; simp
    · have h1 : (b == c) = false := by simp [h]
      have h2 : (c == b) = false := by simp; exact fun e => h e.symm
      simp only [List.contains_cons, h1, h2, Bool.false_or]
      rw [← ih]
      simp only [Bool.false_eq_true, if_false]
      split
      · rename_i h3
        have : Lib.indexByte r c = -1 := by simpa using h3
        omega
      · rename_i h3
        have : Lib.indexByte r c ≠ -1 := by simpa using h3
        omega

theorem NodePost.one {w0 w w' : World} {B r : Nat} {s : Rx.Bytes} {ext fold : Bool} {c : UInt8} (G : Go1 w0 w r s ext fold) (hB : B ≤ w.heap.size)
    (hb : Blk w' w.heap.size (ndCells 1 (Rx.folds fold fun d => d == c) 0 0 (.slice none 0 0)) 87) (hbl : Below w.heap.size w w') :
    NodePost B r ext fold (some (Rx.one fold c, s)) (.returned (.pointer (some ⟨w.heap.size, 0, none⟩))) w' ∧ Kept (· = r) w0 w' :=
  ⟨⟨w.heap.size, rfl, G.rd.at_.keep hbl G.rd.lt, .set hB hb⟩, G.kept.trans (Kept.of_below hbl)⟩

theorem indexByte_any (s : Rx.Bytes) (c : UInt8) (w : World) : Calls Tryz.prog 104 #[.string ⟨s.toArray⟩, .int .u8 c.toNat] w fun e w' => e = .returned (.int .i64 (Lib.indexByte s c)) ∧ w' = w := by
  refine (Any.strings_IndexByte Tryz.lays137 ⟨s.toArray⟩ c.toNat w).mono ?_
  rintro e w' ⟨rfl, rfl⟩
  refine ⟨?_, rfl⟩
  have e : ((c.toNat : Int).toNat.toUInt8) = c := by
    apply UInt8.toNat_inj.1
    simp
  rw [e]

set_option maxHeartbeats 1600000 in
set_option maxRecDepth 100000 in
theorem escaped_any (r : Nat) (no s : Rx.Bytes) (ext fold : Bool) (w : World) (hr : Rd w r s ext fold) :
    Calls Tryz.prog 89 #[.pointer (some ⟨r, 0, none⟩), .string ⟨no.toArray⟩] w fun e w' => NodePost w.heap.size r ext fold (Rx.escaped fold no s) e w' ∧ Kept (· = r) w w' := by
  have HP : Hid (∀ x, Rx.escaped fold no s = x → ∀ e w', NodePost w.heap.size r ext fold x e w' → NodePost w.heap.size r ext fold (Rx.escaped fold no s) e w') := by
    rintro x rfl e w' h; exact h
  generalize hpost : NodePost w.heap.size r ext fold (Rx.escaped fold no s) = POST at HP ⊢
  clear hpost
  have G : Go1 w w r s ext fold := ⟨hr, Kept.refl _ _⟩
  have hx := G.next
  cases s with
  | nil =>
    have HX : Hid (Rx.escaped fold no [] = none) := by show _ = _; rfl
    clear hr
    go_enter Tryz.func89, Tryz.ntmps89
    go_wp2_with fail
    refine hx.mono ?_
    rintro e w' ⟨rfl, hk⟩
    go_wp2_with fail
    exact ⟨rfl, HP.out _ HX.out _ _ rfl, hk⟩
  | cons c t =>
    have ha := fun w => alnum_any c w
    have hi := fun w => indexByte_any no c w
    clear hr
    by_cases h1 : Rx.alnum c = true
    · have HX : Hid (Rx.escaped fold no (c :: t) = none) := by show _ = _; unfold Rx.escaped; simp only [h1]; rfl
      rw [h1] at ha
      clear h1
      go_enter Tryz.func89, Tryz.ntmps89
      go_wp2_with fail
      refine hx.mono ?_
      rintro e w' ⟨rfl, G1⟩
      go_wp2_with fail
      refine (ha _).mono ?_
      rintro e w2 ⟨rfl, rfl⟩
      go_wp2_with fail
      refine (fail_any _).mono ?_
      rintro e w2 ⟨rfl, rfl⟩
      go_wp2_with fail
      exact ⟨rfl, HP.out _ HX.out _ _ rfl, G1.kept⟩
    · have h1 : Rx.alnum c = false := by simpa using h1
      rw [h1] at ha
      by_cases h2 : (0 : Int) ≤ Lib.indexByte no c
      · have HX : Hid (Rx.escaped fold no (c :: t) = none) := by show _ = _; simp only [Rx.escaped]; rw [(idx_contains no c).1 h2]; simp
        clear h1
        go_enter Tryz.func89, Tryz.ntmps89
        go_wp2_with fail
        refine hx.mono ?_
        rintro e w' ⟨rfl, G1⟩
        go_wp2_with fail
        refine (ha _).mono ?_
        rintro e w2 ⟨rfl, rfl⟩
        go_wp2_with fail
        refine (hi _).mono ?_
        rintro e w2 ⟨rfl, rfl⟩
        go_wp2_with fail
        refine (fail_any _).mono ?_
        rintro e w3 ⟨rfl, rfl⟩
        go_wp2_with fail
        exact ⟨rfl, HP.out _ HX.out _ _ rfl, G1.kept⟩
      · have HX : Hid (Rx.escaped fold no (c :: t) = some (Rx.one fold c, t)) := by
          show _ = _; simp only [Rx.escaped]
          have : no.contains c = false := by simpa using fun h => h2 ((idx_contains no c).2 (by simpa using h))
          rw [this, h1]; rfl
        clear h1
        go_enter Tryz.func89, Tryz.ntmps89
        go_wp2_with fail
        refine hx.mono ?_
        rintro e w' ⟨rfl, G1⟩
        go_wp2_with fail
        refine (ha _).mono ?_
        rintro e w2 ⟨rfl, rfl⟩
        go_wp2_with fail
        refine (hi _).mono ?_
        rintro e w2 ⟨rfl, rfl⟩
        go_wp2_with fail
        refine (one_any r c t ext fold _ G1.rd.at_).mono ?_
        rintro e w3 ⟨rfl, hb, hbl⟩
        go_wp2_with fail
        go_ret
        have := NodePost.one (B := w.heap.size) G1 G1.kept.size hb hbl
        exact ⟨HP.out _ HX.out _ _ this.1, this.2⟩

/-- A pointer to a node. -/
def ptrV (p : Nat) : Value := .pointer (some ⟨p, 0, none⟩)

/-- A slice of nodes in memory, that is the call's own, and the nodes behind it, which lie elsewhere. -/
structure NdsAt (w : World) (B : Nat) (v : Value) (l : List Rx.Nd) (ps : List Nat) : Prop where
  len : ps.length = l.length
  none_ : l = [] → v = .slice none 0 0
  own : w.ownsRow B 45 1 v ps.length (ps.map ptrV)
  nd : ∀ i, i < l.length → NdIn w (fun b => B ≤ b ∧ v.ownBlock ≠ some b) (ps.getD i 0) (l.getD i .empty)

theorem NdsAt.nil (w : World) (B : Nat) : NdsAt w B (.slice none 0 0) [] [] := ⟨rfl, fun _ => rfl, World.ownsRow_nil _ _ _ _, fun i hi => absurd hi (Nat.not_lt_zero i)⟩

theorem NdsAt.kept {S : Nat → Prop} {w w' : World} {B : Nat} {v : Value} {l : List Rx.Nd} {ps : List Nat} (h : NdsAt w B v l ps) (hk : Kept S w w') (hS : ∀ k, B ≤ k → ¬ S k) : NdsAt w' B v l ps := by
  refine ⟨h.len, h.none_, ?_, fun i hi => (h.nd i hi).kept hk fun k hk => hS k hk.1⟩
  obtain ⟨h1, h2 | ⟨g, cap, cur, e, hg, hb, r⟩⟩ := h.own
  · exact ⟨h1, .inl h2⟩
  · exact ⟨h1, .inr ⟨g, cap, cur, e, hg, (hk.block g (lt_of_block hb) (hS g hg)).trans hb, r⟩⟩

theorem NdsAt.ex {w : World} {B : Nat} {v : Value} {l : List Rx.Nd} {ps : List Nat} (h : NdsAt w B v l ps) : (l = [] ∧ v = .slice none 0 0) ∨ ∃ (k c : Nat), v = .slice (some ⟨k, 0, none⟩) l.length c ∧ l.length ≤ c ∧ 0 < l.length ∧ B ≤ k ∧ Ptrs w k ps ∧ ∀ i, i < l.length → NdAt w B (ps.getD i 0) (l.getD i .empty) := by
  have hl := h.len
  cases l with
  | nil => exact .inl ⟨rfl, h.none_ rfl⟩
  | cons x t =>
    right
    have ho := h.own
    rcases ho.2 with ⟨-, h2⟩ | ⟨g, cap, cur, e, hg, hb, hc, hm, hs, ht⟩
    · rw [hl] at h2; simp at h2
    · refine ⟨g, cap, by rw [e, hl], by omega, by simp, hg, ?_, fun i hi => (h.nd i hi).mono fun k hk => hk.1⟩
      intro i hi
      have := ho.cells (g := g) (by rw [e]; rfl) i (ptrV (ps.getD i 0)) (by simp [List.getD_eq_getElem?_getD, List.getElem?_eq_getElem hi])
      rw [show ((⟨g, 0, none⟩ : Addr).add i) = ⟨g, i, none⟩ by simp only [Addr.add]; split <;> simp_all] at this
      exact this

theorem NdsAt.push {w w1 : World} {B q : Nat} {v v' : Value} {l : List Rx.Nd} {n : Rx.Nd} {ps : List Nat} {o : Obj} (h : NdsAt w B v l ps) (hn : NdIn w (fun b => B ≤ b ∧ v.ownBlock ≠ some b) q n)
    (hown : w1.ownsRow B 45 1 v' (ps.length + 1) (ps.map ptrV ++ [ptrV q])) (hg : (w.alloc o).grownBy w1 v.ownBlock) (hv : v'.ownBlock = v.ownBlock ∨ v'.ownBlock = some (w.alloc o).heap.size) : NdsAt w1 B v' (l ++ [n]) (ps ++ [q]) := by
  have hl := h.len
  have hk : Kept (fun b => v.ownBlock = some b) (w.alloc o) w1 := ⟨hg.os, hg.tape, hg.output, hg.size, fun k hk hs => hg.block k hk (fun e => hs e.symm)⟩
  have hk0 : Kept (fun _ => False) w (w.alloc o) := (Kept.refl _ _).alloc _
  have mv : ∀ {p : Nat} {x : Rx.Nd}, NdIn w (fun b => B ≤ b ∧ v.ownBlock ≠ some b) p x → NdIn w1 (fun b => B ≤ b ∧ v'.ownBlock ≠ some b) p x := by
    intro p x hx
    refine ((hx.lt.kept hk0 fun _ _ h => h).kept hk fun k hk hs => hk.1.2 hs).mono fun k hk => ⟨hk.1.1, fun e => ?_⟩
    rcases hv with hv | hv
    · exact hk.1.2 (hv ▸ e)
    · rw [hv] at e
      have := Option.some.inj e
      have h2 : (w.alloc o).heap.size = w.heap.size + 1 := by simp
      have := hk.2
      omega
  refine ⟨by simp [hl], fun e => by simp at e, by simpa using hown, fun i hi => ?_⟩
  rcases Nat.lt_or_ge i l.length with h1 | h1
  · have e1 : (ps ++ [q]).getD i 0 = ps.getD i 0 := by simp [List.getD_eq_getElem?_getD, List.getElem?_append_left (show i < ps.length by omega)]
    have e2 : (l ++ [n]).getD i .empty = l.getD i .empty := by simp [List.getD_eq_getElem?_getD, List.getElem?_append_left h1]
    rw [e1, e2]
    exact mv (h.nd i h1)
  · simp at hi
    obtain rfl : i = l.length := by omega
    have e1 : (ps ++ [q]).getD l.length 0 = q := by rw [← hl]; simp [List.getD_eq_getElem?_getD]
    have e2 : (l ++ [n]).getD l.length .empty = n := by simp [List.getD_eq_getElem?_getD]
    rw [e1, e2]
    exact mv hn

theorem Kept.pushed {S : Nat → Prop} {w0 w w1 : World} {o : Obj} {v : Value} (h : Kept S w0 w) (hg : (w.alloc o).grownBy w1 v.ownBlock) (hv : ∀ k, v.ownBlock = some k → w0.heap.size ≤ k) : Kept S w0 w1 := by
  have hk : Kept (fun b => v.ownBlock = some b) (w.alloc o) w1 := ⟨hg.os, hg.tape, hg.output, hg.size, fun k hk hs => hg.block k hk (fun e => hs e.symm)⟩
  exact (h.alloc o).trans' hk fun k hk e => absurd (hv k e) (by omega)

/-- A kind of a list of nodes. -/
inductive Kind2 : Int → (List Rx.Nd → Rx.Nd) → Prop
  | cat : Kind2 4 .cat
  | alt : Kind2 5 .alt

set_option maxHeartbeats 1600000 in
set_option maxRecDepth 100000 in
theorem join_any (kind : Int) (mk : List Rx.Nd → Rx.Nd) (hk : Kind2 kind mk) (v : Value) (l : List Rx.Nd) (ps : List Nat) (B : Nat) (w : World) (h : NdsAt w B v l ps) (hB : B ≤ w.heap.size) (hl : l.length ≤ 1073741824) :
    Calls Tryz.prog 34 #[.int .i64 kind, v] w fun e w' => (∃ p, e = .returned (.pointer (some ⟨p, 0, none⟩)) ∧ NdAt w' B p (Rx.joinN mk l)) ∧ Below w.heap.size w w' := by
  have hpl := h.len
  rcases h.ex with ⟨rfl, rfl⟩ | ⟨k, c, rfl, hc, hpos, hBk, hps, hn⟩
  · go_enter Tryz.func34, Tryz.ntmps34
    go_wp2_with fail
    rw [nd_new]
    go_ret
    exact ⟨⟨w.heap.size, rfl, .empty hB (Blk.new _ _ _)⟩, (Below.refl _ _).alloc (Nat.le_refl _) _⟩
  · rcases l with _ | ⟨x, _ | ⟨y, t⟩⟩
    · simp at hpos
    · obtain ⟨q, rfl⟩ : ∃ q, ps = [q] := by
        rcases ps with _ | ⟨q, _ | ⟨q2, u⟩⟩
        · simp at hpl
        · exact ⟨q, rfl⟩
        · simp at hpl
      have h0 : w.cell? ⟨k, 0, none⟩ = some (.pointer (some ⟨q, 0, none⟩)) := hps 0 (by simp)
      have h1 : NdAt w B q x := hn 0 (by simp)
      have H := Lib.hid h1
      clear hps hn h1
      go_enter Tryz.func34, Tryz.ntmps34
      go_wp2_with fail
      go_ret
      exact ⟨⟨_, rfl, H.out⟩, Below.refl _ _⟩
    · have HPS := Lib.hid hps
      have HN := Lib.hid hn
      have hd0 : ¬ ((t.length : Int) + 1 + 1 = 0) := by omega
      have hd1 : ¬ ((t.length : Int) + 1 + 1 = 1) := by omega
      clear hps hn
      go_enter Tryz.func34, Tryz.ntmps34
      go_wp2_with fail
      rw [nd_new2]
      go_ret
      have hK : Kept (fun _ => False) w (w.alloc (.cells (ndCells kind noHas 0 0 (.slice (some ⟨k, 0, none⟩) (t.length + 1 + 1) c)) 87)) := (Kept.refl _ _).alloc _
      have hb := Blk.new w (ndCells kind noHas 0 0 (.slice (some ⟨k, 0, none⟩) (t.length + 1 + 1) c)) 87
      refine ⟨⟨w.heap.size, rfl, ?_⟩, hK.below⟩
      have hps2 := HPS.out.kept hK id
      have hn2 := fun i hi => (HN.out i hi).kept hK (fun _ _ h => h.elim)
      cases hk with
      | cat => exact .cat hB hb (by simp) ⟨hc, hl⟩ hBk hpl hps2 hn2
      | alt => exact .alt hB hb (by simp) ⟨hc, hl⟩ hBk hpl hps2 hn2

end Go.Proofs.YthdkbbkkijdhfaaGreatDoor

/-
  The walk of atom, given that of branches. Condition: what is told lies in memory.
-/
namespace Go.Proofs.YthdkbbkkijdhfaaGreatDoor
open Go.RowKit Go.Shelf Go.Maps

theorem parts_len (f : Nat) : ∀ (first : Bool) (h h' : Rx.Has) (s s' : Rx.Bytes), Rx.parts f first h s = some (h', s') → s'.length ≤ s.length := by
  induction f with
  | zero => intro first h h' s s' e; simp [Rx.parts] at e
  | succ f ih =>
    intro first h h' s s' e
    unfold Rx.parts at e
    split at e
    · cases e; exact Nat.le_refl _
    · split at e
      · cases e
      · split at e
        · cases e
        · rename_i h2 s2 hp
          have h1 := part_len hp
          have h2 := ih _ _ _ _ _ e
          omega
theorem bracket_len {fold : Bool} {s s' : Rx.Bytes} {n : Rx.Nd} (h : Rx.bracket fold s = some (n, s')) : s'.length ≤ s.length := by
  unfold Rx.bracket at h
  simp only [] at h
  split at h
  · cases h
  · rename_i g s2 hp
    have h1 := parts_len _ _ _ _ _ _ hp
    split at h
    · cases h
    · rename_i s3 ht
      cases h
      have h2 := take_len ht
      have h3 : (if (s.head? == some 94) = true then s.tail else s).length ≤ s.length := by split <;> simp
      omega
theorem escaped_len {fold : Bool} {no s s' : Rx.Bytes} {n : Rx.Nd} (h : Rx.escaped fold no s = some (n, s')) : s'.length ≤ s.length := by
  unfold Rx.escaped at h
  split at h
  · cases h
  · split at h
    · cases h
    · cases h; simp
theorem piece_len {ext : Bool} {n n' : Rx.Nd} {a : Bool} {s s' : Rx.Bytes} (h : Rx.piece ext n a s = some (n', s')) : s'.length ≤ s.length := by
  unfold Rx.piece at h
  split at h
  · cases h
  · rename_i s1 ht; cases h; exact times_len ht
  · rename_i m most s1 ht
    have h1 := times_len ht
    split at h
    · rename_i s2 ht2
      have h2 := times_len ht2
      split at h
      · cases h
      · cases h; omega
    · cases h

theorem ext_lens (fold : Bool) (f : Nat) : (∀ s l s', Rx.branches fold f s = some (l, s') → s'.length ≤ s.length) ∧ (∀ s l s', Rx.branch fold f s = some (l, s') → s'.length ≤ s.length) ∧ (∀ s n s', Rx.atom fold f s = some (n, s') → s'.length < s.length) := by
  induction f with
  | zero => exact ⟨fun s l s' h => by simp [Rx.branches] at h, fun s l s' h => by simp [Rx.branch] at h, fun s n s' h => by simp [Rx.atom] at h⟩
  | succ f ih =>
    obtain ⟨i1, i2, i3⟩ := ih
    refine ⟨fun s l s' h => ?_, fun s l s' h => ?_, fun s n s' h => ?_⟩
    · unfold Rx.branches at h
      split at h
      · cases h
      · cases h
      · rename_i l1 s1 _ hb
        have h1 := i2 _ _ _ hb
        split at h
        · cases h; exact h1
        · rename_i s2 ht
          have h2 := take_len ht
          rw [Option.map_eq_some_iff] at h
          obtain ⟨x, hx, e⟩ := h
          cases e
          have := i1 _ _ _ hx
          omega
    · unfold Rx.branch at h
      split at h
      · cases h; exact Nat.le_refl _
      · split at h
        · cases h
        · rename_i a s1 ha
          have h1 := i3 _ _ _ ha
          split at h
          · cases h
          · rename_i p s2 hp
            have h2 := piece_len hp
            rw [Option.map_eq_some_iff] at h
            obtain ⟨x, hx, e⟩ := h
            cases e
            have := i2 _ _ _ hx
            omega
    · unfold Rx.atom at h
      split at h
      · cases h
      · rename_i c t
        split at h
        · split at h
          · cases h
          · rename_i l s1 hb
            have h1 := i1 _ _ _ hb
            rw [Option.map_eq_some_iff] at h
            obtain ⟨x, hx, e⟩ := h
            cases e
            have := take_len hx
            simp; omega
        · split at h
          · have := bracket_len h; simp; omega
          · split at h
            · cases h; simp
            · split at h
              · cases h; simp
              · split at h
                · cases h; simp
                · split at h
                  · have := escaped_len h; simp; omega
                  · split at h
                    · cases h
                    · cases h; simp

def AtomC (fold : Bool) (L : Nat) : Prop := ∀ (s : Rx.Bytes), s.length ≤ L → ∀ f, 3 * s.length + 1 ≤ f → ∀ (r : Nat) (w : World), Rd w r s true fold →
  Calls Tryz.prog 82 #[.pointer (some ⟨r, 0, none⟩)] w fun e w' => NodePost w.heap.size r true fold (Rx.atom fold f s) e w' ∧ Kept (· = r) w w'
/-- A branch, joined. -/
def branchN (fold : Bool) (f : Nat) (s : Rx.Bytes) : Option (Rx.Nd × Rx.Bytes) := match Rx.branch fold f s with
  | none => none
  | some ([], _) => none
  | some (l, s') => some (Rx.joinN .cat l, s')
def BranchC (fold : Bool) (L : Nat) : Prop := ∀ (s : Rx.Bytes), s.length ≤ L → ∀ f, 3 * s.length + 2 ≤ f → ∀ (r : Nat) (w : World), Rd w r s true fold →
  Calls Tryz.prog 65 #[.pointer (some ⟨r, 0, none⟩)] w fun e w' => NodePost w.heap.size r true fold (branchN fold f s) e w' ∧ Kept (· = r) w w'
/-- Branches, joined. -/
def branchesN (fold : Bool) (f : Nat) (s : Rx.Bytes) : Option (Rx.Nd × Rx.Bytes) := (Rx.branches fold f s).map fun x => (Rx.joinN .alt x.1, x.2)
def BranchesC (fold : Bool) (L : Nat) : Prop := ∀ (s : Rx.Bytes), s.length ≤ L → ∀ f, 3 * s.length + 3 ≤ f → ∀ (r : Nat) (w : World), Rd w r s true fold →
  Calls Tryz.prog 53 #[.pointer (some ⟨r, 0, none⟩)] w fun e w' => NodePost w.heap.size r true fold (branchesN fold f s) e w' ∧ Kept (· = r) w w'

theorem u8_ne {c : UInt8} {k : UInt8} (h : ¬ c = k) : ¬ ((c.toNat : Int) = (k.toNat : Int)) := fun e => h (by rw [u8_eq]; exact e)

set_option maxHeartbeats 3200000 in
set_option maxRecDepth 100000 in
theorem atom_any (fold : Bool) (L : Nat) (hB : ∀ L', L' < L → BranchesC fold L') : AtomC fold L := by
  intro s hsL f hf r w hr
  obtain ⟨f, rfl⟩ : ∃ g, f = g + 1 := ⟨f - 1, by omega⟩
  have HP : Hid (∀ x, Rx.atom fold (f + 1) s = x → ∀ e w', NodePost w.heap.size r true fold x e w' → NodePost w.heap.size r true fold (Rx.atom fold (f + 1) s) e w') := by
    rintro x rfl e w' h; exact h
  generalize hpost : NodePost w.heap.size r true fold (Rx.atom fold (f + 1) s) = POST at HP ⊢
  clear hpost
  have G : Go1 w w r s true fold := ⟨hr, Kept.refl _ _⟩
  have hx := G.next
  cases s with
  | nil =>
    have HX : Hid (Rx.atom fold (f + 1) [] = none) := by show _ = _; rfl
    clear hr
    go_enter Tryz.func82, Tryz.ntmps82
    go_wp2_with fail
    refine hx.mono ?_
    rintro e w' ⟨rfl, hk⟩
    go_wp2_with fail
    exact ⟨rfl, HP.out _ HX.out _ _ rfl, hk⟩
  | cons c t =>
    simp only [List.length_cons] at hsL hf
    have HBs : Hid (BranchesC fold t.length) := by show BranchesC _ _; exact hB _ (by omega)
    clear hr hB
    go_enter Tryz.func82, Tryz.ntmps82
    go_wp2_with fail
    refine hx.mono ?_
    rintro e w1 ⟨rfl, G1⟩
    have hsz := G1.kept.size
    clear hx G
    by_cases h40 : c = 40
    · subst h40
      have hb := HBs.out t (Nat.le_refl _) f (by omega) r w1 G1.rd
      have HX : Hid (Rx.atom fold (f + 1) (40 :: t) = match branchesN fold f t with
        | none => none
        | some (n, s1) => (Rx.take [41] s1).map fun s2 => (n, s2)) := by
        show _ = _
        unfold branchesN
        simp only [Rx.atom, if_pos]
        rcases Rx.branches fold f t with _ | ⟨l, s1⟩ <;> rfl
      rcases hbn : branchesN fold f t with _ | ⟨n, s1⟩
      · rw [hbn] at hb HX
        clear hbn
        go_wp2_with fail
        refine hb.mono ?_
        rintro e w2 ⟨rfl, hk⟩
        go_wp2_with fail
        exact ⟨rfl, HP.out _ HX.out _ _ rfl, G1.kept.trans hk⟩
      · have hl1 : s1.length ≤ t.length := by
          unfold branchesN at hbn
          rw [Option.map_eq_some_iff] at hbn
          obtain ⟨x, hx, e⟩ := hbn
          cases e
          exact (ext_lens fold f).1 _ _ _ hx
        rw [hbn] at hb HX
        clear hbn
        go_wp2_with fail
        refine hb.mono ?_
        rintro e w2 ⟨⟨p, rfl, hr2, hn2⟩, hk⟩
        have G2 := G1.go hr2 hk hl1
        have hrlt := G1.rd.lt
        clear hb hr2
        rcases htk : Rx.take [41] s1 with _ | s2
        · have hm := G2.must [41] _ htk
          rw [htk] at HX
          go_wp2_with fail
          refine hm.mono ?_
          rintro e w3 ⟨rfl, hk3⟩
          clear hm htk
          go_wp2_with fail
          exact ⟨rfl, HP.out _ HX.out _ _ rfl, hk3⟩
        · have hm := must_any r [41] s1 true fold w2 G2.rd.at_
          unfold MustPost at hm
          rw [htk] at HX hm
          go_wp2_with fail
          refine hm.mono ?_
          rintro e w3 ⟨⟨rfl, hr3⟩, hk3⟩
          clear hm htk
          go_wp2_with fail
          go_ret
          exact ⟨HP.out _ HX.out _ _ ⟨p, rfl, hr3, (hn2.kept hk3 fun k hk e => by omega).mono fun k hk => by omega⟩, G2.kept.trans hk3⟩
    clear HBs
    by_cases h91 : c = 91
    · subst h91
      have HX : Hid (Rx.atom fold (f + 1) (91 :: t) = Rx.bracket fold t) := by show _ = _; simp [Rx.atom]
      have hb := bracket_any r t true fold w1 G1.rd
      go_wp2_with fail
      refine hb.mono ?_
      rintro e w2 ⟨hp, hk⟩
      cases hbn : Rx.bracket fold t with
      | none =>
        rw [hbn] at hp
        have hp : e = _ := hp
        subst hp
        have HX2 := HX.out.trans hbn
        have HX3 := Lib.hid HX2
        clear hbn hb HX HX2
        go_wp2_with fail
        exact ⟨rfl, HP.out _ HX3.out _ _ rfl, G1.kept.trans hk⟩
      | some x =>
        obtain ⟨n, s1⟩ := x
        rw [hbn] at hp
        obtain ⟨p, rfl, hr2, hn2⟩ := hp
        have HX2 := HX.out.trans hbn
        have HX3 := Lib.hid HX2
        clear hbn hb HX HX2
        go_wp2_with fail
        go_ret
        exact ⟨HP.out _ HX3.out _ _ ⟨p, rfl, hr2, hn2.mono fun k hk => by omega⟩, G1.kept.trans hk⟩
    by_cases h46 : c = 46
    · subst h46
      have HX : Hid (Rx.atom fold (f + 1) (46 :: t) = some (Rx.dot, t)) := by show _ = _; simp [Rx.atom]
      go_wp2_with fail
      refine (dot_any _).mono ?_
      rintro e w2 ⟨rfl, hb, hbl⟩
      go_wp2_with fail
      go_ret
      exact ⟨HP.out _ HX.out _ _ ⟨w1.heap.size, rfl, G1.rd.at_.keep hbl G1.rd.lt, .set hsz hb⟩, G1.kept.trans (Kept.of_below hbl)⟩
    by_cases h94 : c = 94
    · subst h94
      have HX : Hid (Rx.atom fold (f + 1) (94 :: t) = some (.beg, t)) := by show _ = _; simp [Rx.atom]
      go_wp2_with fail
      rw [nd_new]
      go_ret
      exact ⟨HP.out _ HX.out _ _ ⟨w1.heap.size, rfl, G1.rd.at_.alloc _, .beg hsz (Blk.new _ _ _)⟩, G1.kept.alloc _⟩
    by_cases h36 : c = 36
    · subst h36
      have HX : Hid (Rx.atom fold (f + 1) (36 :: t) = some (.fin, t)) := by show _ = _; simp [Rx.atom]
      go_wp2_with fail
      rw [nd_new]
      go_ret
      exact ⟨HP.out _ HX.out _ _ ⟨w1.heap.size, rfl, G1.rd.at_.alloc _, .fin hsz (Blk.new _ _ _)⟩, G1.kept.alloc _⟩
    by_cases h92 : c = 92
    · subst h92
      have HX : Hid (Rx.atom fold (f + 1) (92 :: t) = Rx.escaped fold [] t) := by show _ = _; simp [Rx.atom]
      have hb := escaped_any r [] t true fold w1 G1.rd
      go_wp2_with fail
      refine hb.mono ?_
      rintro e w2 ⟨hp, hk⟩
      cases hbn : Rx.escaped fold [] t with
      | none =>
        rw [hbn] at hp
        have hp : e = _ := hp
        subst hp
        have HX3 := Lib.hid (HX.out.trans hbn)
        clear hbn hb HX
        go_wp2_with fail
        exact ⟨rfl, HP.out _ HX3.out _ _ rfl, G1.kept.trans hk⟩
      | some x =>
        obtain ⟨n, s1⟩ := x
        rw [hbn] at hp
        obtain ⟨p, rfl, hr2, hn2⟩ := hp
        have HX3 := Lib.hid (HX.out.trans hbn)
        clear hbn hb HX
        go_wp2_with fail
        go_ret
        exact ⟨HP.out _ HX3.out _ _ ⟨p, rfl, hr2, hn2.mono fun k hk => by omega⟩, G1.kept.trans hk⟩
    by_cases h42 : c = 42
    · subst h42
      have HX : Hid (Rx.atom fold (f + 1) (42 :: t) = none) := by show _ = _; simp [Rx.atom]
      go_wp2_with fail
      refine (fail_any _).mono ?_
      rintro e w2 ⟨rfl, rfl⟩
      go_wp2_with fail
      exact ⟨rfl, HP.out _ HX.out _ _ rfl, G1.kept⟩
    by_cases h43 : c = 43
    · subst h43
      have HX : Hid (Rx.atom fold (f + 1) (43 :: t) = none) := by show _ = _; simp [Rx.atom]
      go_wp2_with fail
      refine (fail_any _).mono ?_
      rintro e w2 ⟨rfl, rfl⟩
      go_wp2_with fail
      exact ⟨rfl, HP.out _ HX.out _ _ rfl, G1.kept⟩
    by_cases h63 : c = 63
    · subst h63
      have HX : Hid (Rx.atom fold (f + 1) (63 :: t) = none) := by show _ = _; simp [Rx.atom]
      go_wp2_with fail
      refine (fail_any _).mono ?_
      rintro e w2 ⟨rfl, rfl⟩
      go_wp2_with fail
      exact ⟨rfl, HP.out _ HX.out _ _ rfl, G1.kept⟩
    by_cases h123 : c = 123
    · subst h123
      have HX : Hid (Rx.atom fold (f + 1) (123 :: t) = none) := by show _ = _; simp [Rx.atom]
      go_wp2_with fail
      refine (fail_any _).mono ?_
      rintro e w2 ⟨rfl, rfl⟩
      go_wp2_with fail
      exact ⟨rfl, HP.out _ HX.out _ _ rfl, G1.kept⟩
    have HX : Hid (Rx.atom fold (f + 1) (c :: t) = some (Rx.one fold c, t)) := by show _ = _; simp [Rx.atom, h40, h91, h46, h94, h36, h92, h42, h43, h63, h123]
    have g40 : ¬ ((c.toNat : Int) = 40) := u8_ne h40
    have g91 : ¬ ((c.toNat : Int) = 91) := u8_ne h91
    have g46 : ¬ ((c.toNat : Int) = 46) := u8_ne h46
    have g94 : ¬ ((c.toNat : Int) = 94) := u8_ne h94
    have g36 : ¬ ((c.toNat : Int) = 36) := u8_ne h36
    have g92 : ¬ ((c.toNat : Int) = 92) := u8_ne h92
    have g42 : ¬ ((c.toNat : Int) = 42) := u8_ne h42
    have g43 : ¬ ((c.toNat : Int) = 43) := u8_ne h43
    have g63 : ¬ ((c.toNat : Int) = 63) := u8_ne h63
    have g123 : ¬ ((c.toNat : Int) = 123) := u8_ne h123
    clear h40 h91 h46 h94 h36 h92 h42 h43 h63 h123
    go_wp2_with fail
    refine (one_any r c t true fold _ G1.rd.at_).mono ?_
    rintro e w3 ⟨rfl, hb, hbl⟩
    go_wp2_with fail
    go_ret
    have := NodePost.one (B := w.heap.size) G1 G1.kept.size hb hbl
    exact ⟨HP.out _ HX.out _ _ this.1, this.2⟩

end Go.Proofs.YthdkbbkkijdhfaaGreatDoor
