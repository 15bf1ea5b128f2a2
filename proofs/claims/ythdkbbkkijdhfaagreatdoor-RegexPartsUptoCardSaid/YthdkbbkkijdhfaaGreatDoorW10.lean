/-
  The walks of number, times, piece. Condition: what is told lies in memory.
-/
import Derived.Test.YthdkbbkkijdhfaaGreatDoorW9
import Derived.Test.YthdkbbkkijdhfaaGreatDoorNum
import Derived.Lib.QuietBelow
namespace Go.Proofs.YthdkbbkkijdhfaaGreatDoor
open Go.RowKit Go.Shelf Go.Maps Go.Sort

theorem digit_same : Rx.digit = Ord.digit := rfl
theorem rx_number (s : Rx.Bytes) : Rx.number s = (Ord.number (s.takeWhile Ord.digit) 255).map fun v => (v.toNat, s.dropWhile Ord.digit) := by
  have ha : (s.takeWhile Ord.digit).all Ord.digit = true := List.all_takeWhile
  unfold Rx.number
  simp only []
  rw [digit_same]
  unfold Ord.number
  rw [ha]
  have hv : Rx.value (s.takeWhile Ord.digit) = Ord.value (s.takeWhile Ord.digit) := rfl
  rw [hv]
  have e : decide (((Ord.value (s.takeWhile Ord.digit) : Nat) : Int) ≤ 255) = decide (Ord.value (s.takeWhile Ord.digit) ≤ 255) := by congr 1; apply propext; omega
  rw [e, Bool.and_true]
  by_cases h : (!(s.takeWhile Ord.digit).isEmpty && decide (Ord.value (s.takeWhile Ord.digit) ≤ 255)) = true
  · rw [if_pos h, if_pos h]; rfl
  · rw [if_neg h, if_neg h]; rfl

theorem ord_number_nat {s : Ord.Bytes} {m v : Int} (h : Ord.number s m = some v) : ((v.toNat : Nat) : Int) = v := by
  unfold Ord.number at h
  split at h
  · cases h; omega
  · cases h

def NumPost (r : Nat) (s : Rx.Bytes) (ext fold : Bool) (e : Ending) (w' : World) : Prop := match Rx.number s with
  | none => e = .panicked [{ v := brokenV, recovered := false }]
  | some (n, s') => e = .returned (.int .i64 n) ∧ RdAt w' r s' ext fold

set_option maxHeartbeats 1600000 in
set_option maxRecDepth 100000 in
theorem rnumber_any (r : Nat) (s : Rx.Bytes) (ext fold : Bool) (w : World) (hr : Rd w r s ext fold) :
    Calls Tryz.prog 101 #[.pointer (some ⟨r, 0, none⟩)] w fun e w' => NumPost r s ext fold e w' ∧ Kept (· = r) w w' := by
  have h8 := hr.hr
  have hlen := hr.len
  have c0 : w.cell? ⟨r, 0, none⟩ = some (.string ⟨s.toArray⟩) := Blk.cell hr.at_ 0 rfl
  have htl := trimLeft_any s [48, 49, 50, 51, 52, 53, 54, 55, 56, 57] Ord.digit digit_contains (by decide) (by decide) w
  have hd : (s.dropWhile Ord.digit).length ≤ s.length := (List.dropWhile_sublist _).length_le
  have htt : (s.takeWhile Ord.digit).length ≤ s.length := (List.takeWhile_sublist _).length_le
  have HT := Lib.hid (take_sub_drop s Ord.digit)
  have HX := Lib.hid (rx_number s)
  have HR := Lib.hid hr
  have HP : Hid (∀ x, Rx.number s = x → ∀ e w', (match x with
    | none => e = .panicked [{ v := brokenV, recovered := false }]
    | some (n, s') => e = .returned (.int .i64 n) ∧ RdAt w' r s' ext fold) → NumPost r s ext fold e w') := by
    rintro x rfl e w' h; exact h
  clear hr
  go_enter Tryz.func101, Tryz.ntmps101
  go_wp2_with fail
  refine htl.mono ?_
  rintro e w1 ⟨rfl, hb1⟩
  have hr1 : Rd w1 r s ext fold := HR.out.self (Kept.of_below hb1) (HR.out.at_.keep hb1 HR.out.lt) (Nat.le_refl _)
  have HK1 := Lib.hid (Kept.of_below (S := (· = r)) hb1)
  have c1 : w1.cell? ⟨r, 0, none⟩ = some (.string ⟨s.toArray⟩) := Blk.cell hr1.at_ 0 rfl
  clear htl c0 hb1
  go_upto_region 2 with fail
  have hpa : ∀ d os, Calls Tryz.prog 113 #[.string ⟨(s.takeWhile Ord.digit).toArray⟩, .int .i64 255] (grow (redrawn w1 d) os) fun e w' => e = .returned (numVal (s.takeWhile Ord.digit) 255) ∧ ∃ p : Regrown, w' = grow (redrawn w1 p.d) p.os := fun d os => by
    refine Calls.regrown_of (number_any (s.takeWhile Ord.digit) 255 (by omega) (by decide) (by decide) _ ?_ ?_)
    · exact hr1.glo.kept (Kept.of_below (S := fun _ => False) (below_regrown w1 d os)) (fun _ h => h.elim) (by have := hr1.lt; omega)
    · have := (below_regrown w1 d os).size; have := hr1.lt; omega
  have kk := cell_regrown c1
  have hsub : ((s.length : Int) - ((s.dropWhile Ord.digit).length : Int)) = (((s.takeWhile Ord.digit).length : Nat) : Int) := by
    have h := congrArg List.length (List.takeWhile_append_dropWhile (p := Ord.digit) (l := s))
    simp only [List.length_append] at h
    omega
  have hwr : IntKind.i64.wrap (((s.takeWhile Ord.digit).length : Nat) : Int) = (((s.takeWhile Ord.digit).length : Nat) : Int) := by
    have : (((s.takeWhile Ord.digit).length : Nat) : Int) < 1073741824 := by omega
    simp [IntKind.wrap, IntKind.signed, IntKind.bits]; omega
  have hex : (⟨s.toArray⟩ : ByteArray).extract 0 (s.takeWhile Ord.digit).length = ⟨(s.takeWhile Ord.digit).toArray⟩ := by
    rw [extract_take]
    congr 2
    have h := List.takeWhile_append_dropWhile (p := Ord.digit) (l := s)
    have h2 : (s.takeWhile Ord.digit ++ s.dropWhile Ord.digit).take (s.takeWhile Ord.digit).length = s.takeWhile Ord.digit := List.take_left
    rw [h] at h2
    exact h2
  have hd2 : (s.dropWhile Ord.digit).length < 1073741824 := by omega
  cases hn : Ord.number (s.takeWhile Ord.digit) 255 with
  | none =>
    have hnv : numVal (s.takeWhile Ord.digit) 255 = .tuple #[.int .i64 0, .bool false] := by unfold numVal; rw [hn]
    rw [hnv] at hpa
    have HX2 : Hid (Rx.number s = none) := by show _ = _; rw [HX.out, hn]; rfl
    clear hn hnv
    refine wp_region_quiet_below (by kernel_rfl) (by kernel_rfl) ?_
    repeat (quiet_step (first | with_reducible exact hpa _ _))
    refine wpQuiet_nil ?_
    intro _ hw'
    obtain ⟨⟨dq, osq⟩, hw''⟩ := hw'
    subst hw''
    have hbb := below_regrown w1 dq osq
    have HK2 : Hid (Kept (· = r) w (grow (redrawn w1 dq) osq)) := HK1.out.trans (Kept.of_below hbb)
    clear hpa kk hbb
    generalize grow (redrawn w1 dq) osq = w2 at *
    go_wp2_with fail
    refine (fail_any _).mono ?_
    rintro e w3 ⟨rfl, rfl⟩
    go_wp2_with fail
    exact ⟨rfl, HP.out none HX2.out _ _ rfl, HK2.out⟩
  | some v =>
    have hnv : numVal (s.takeWhile Ord.digit) 255 = .tuple #[.int .i64 v, .bool true] := by unfold numVal; rw [hn]
    rw [hnv] at hpa
    have hvn := ord_number_nat hn
    have HX2 : Hid (Rx.number s = some (v.toNat, s.dropWhile Ord.digit)) := by show _ = _; rw [HX.out, hn]; rfl
    clear hn hnv
    refine wp_region_quiet_below (by kernel_rfl) (by kernel_rfl) ?_
    repeat (quiet_step (first | with_reducible exact hpa _ _))
    refine wpQuiet_nil ?_
    intro _ hw'
    obtain ⟨⟨dq, osq⟩, hw''⟩ := hw'
    subst hw''
    have hbb := below_regrown w1 dq osq
    have HK2 : Hid (Kept (· = r) w (grow (redrawn w1 dq) osq)) := HK1.out.trans (Kept.of_below hbb)
    have hr2 := hr1.at_.keep hbb hr1.lt
    clear hpa kk hbb hr1 c1
    generalize grow (redrawn w1 dq) osq = w2 at *
    have c0 : w2.cell? ⟨r, 0, none⟩ = some (.string ⟨s.toArray⟩) := Blk.cell hr2 0 rfl
    have f0 := hr2.free 0
    go_wp2_with fail
    go_ret
    refine ⟨HP.out _ HX2.out _ _ ⟨by rw [hvn]; rfl, hr2.set 0 _⟩, HK2.out.setCell (.inl rfl) 0 _⟩

/-- What times hands back. -/
def timesVal : Option (Nat × Int) → Value
  | none => .tuple #[.int .i64 0, .int .i64 0, .bool false]
  | some (m, n) => .tuple #[.int .i64 m, .int .i64 n, .bool true]
def TimesPost (r : Nat) (s : Rx.Bytes) (ext fold : Bool) (e : Ending) (w' : World) : Prop := match Rx.times ext s with
  | none => e = .panicked [{ v := brokenV, recovered := false }]
  | some (x, s') => e = .returned (timesVal x) ∧ RdAt w' r s' ext fold

theorem number_len {s s' : Rx.Bytes} {n : Nat} (h : Rx.number s = some (n, s')) : s'.length ≤ s.length := by
  unfold Rx.number at h
  simp only [] at h
  split at h
  · cases h; exact (List.dropWhile_sublist _).length_le
  · cases h

/-- A reader that walks on. -/
structure Go1 (w wx : World) (r : Nat) (s : Rx.Bytes) (ext fold : Bool) : Prop where
  rd : Rd wx r s ext fold
  kept : Kept (· = r) w wx
theorem Go1.go {w wx w' : World} {r : Nat} {s s' : Rx.Bytes} {ext fold : Bool} (G : Go1 w wx r s ext fold) (hr : RdAt w' r s' ext fold) (hk : Kept (· = r) wx w') (hl : s'.length ≤ s.length) : Go1 w w' r s' ext fold :=
  ⟨G.rd.self hk hr hl, G.kept.trans hk⟩
theorem Go1.cell {w wx : World} {r : Nat} {s : Rx.Bytes} {ext fold : Bool} (G : Go1 w wx r s ext fold) : wx.cell? ⟨r, 0, none⟩ = some (.string ⟨s.toArray⟩) := Blk.cell G.rd.at_ 0 rfl
theorem Go1.ext {w wx : World} {r : Nat} {s : Rx.Bytes} {ext fold : Bool} (G : Go1 w wx r s ext fold) : wx.cell? ⟨r, 1, none⟩ = some (.bool ext) := Blk.cell G.rd.at_ 1 rfl
/-- take, of a reader that walks on. -/
theorem Go1.take {w wx : World} {r : Nat} {s : Rx.Bytes} {ext fold : Bool} (G : Go1 w wx r s ext fold) (t : Rx.Bytes) (x : Option Rx.Bytes) (hx : Rx.take t s = x) :
    Calls Tryz.prog 66 #[.pointer (some ⟨r, 0, none⟩), .string ⟨t.toArray⟩] wx fun e w' => e = .returned (.bool x.isSome) ∧ Go1 w w' r (x.getD s) ext fold := by
  refine (take_any r t s ext fold wx G.rd.at_).mono ?_
  rintro e w' ⟨h1, hk⟩
  unfold TakePost at h1
  rw [hx] at h1
  cases x with
  | none => exact ⟨h1.1, G.go h1.2 hk (Nat.le_refl _)⟩
  | some s' => exact ⟨h1.1, G.go h1.2 hk (take_len hx)⟩
theorem Go1.number {w wx : World} {r : Nat} {s : Rx.Bytes} {ext fold : Bool} (G : Go1 w wx r s ext fold) (x : Option (Nat × Rx.Bytes)) (hx : Rx.number s = x) :
    Calls Tryz.prog 101 #[.pointer (some ⟨r, 0, none⟩)] wx fun e w' => match x with
      | none => e = .panicked [{ v := brokenV, recovered := false }] ∧ Kept (· = r) w w'
      | some (n, s') => e = .returned (.int .i64 n) ∧ Go1 w w' r s' ext fold := by
  refine (rnumber_any r s ext fold wx G.rd).mono ?_
  rintro e w' ⟨h1, hk⟩
  unfold NumPost at h1
  rw [hx] at h1
  cases x with
  | none => exact ⟨h1, G.kept.trans hk⟩
  | some y => obtain ⟨n, s'⟩ := y; exact ⟨h1.1, G.go h1.2 hk (number_len hx)⟩
theorem Go1.must {w wx : World} {r : Nat} {s : Rx.Bytes} {ext fold : Bool} (G : Go1 w wx r s ext fold) (t : Rx.Bytes) (x : Option Rx.Bytes) (hx : Rx.take t s = x) :
    Calls Tryz.prog 86 #[.pointer (some ⟨r, 0, none⟩), .string ⟨t.toArray⟩] wx fun e w' => match x with
      | none => e = .panicked [{ v := brokenV, recovered := false }] ∧ Kept (· = r) w w'
      | some s' => e = .returned (.tuple #[]) ∧ Go1 w w' r s' ext fold := by
  refine (must_any r t s ext fold wx G.rd.at_).mono ?_
  rintro e w' ⟨h1, hk⟩
  unfold MustPost at h1
  rw [hx] at h1
  cases x with
  | none => exact ⟨h1, G.kept.trans hk⟩
  | some s' => exact ⟨h1.1, G.go h1.2 hk (take_len hx)⟩
theorem Go1.next {w wx : World} {r : Nat} {s : Rx.Bytes} {ext fold : Bool} (G : Go1 w wx r s ext fold) :
    Calls Tryz.prog 68 #[.pointer (some ⟨r, 0, none⟩)] wx fun e w' => match s with
      | [] => e = .panicked [{ v := brokenV, recovered := false }] ∧ Kept (· = r) w w'
      | c :: s' => e = .returned (.int .u8 c.toNat) ∧ Go1 w w' r s' ext fold := by
  refine (next_any r s ext fold wx G.rd.at_).mono ?_
  rintro e w' ⟨h1, hk⟩
  unfold NextPost at h1
  cases s with
  | nil => exact ⟨h1, G.kept.trans hk⟩
  | cons c s' => exact ⟨h1.1, G.go h1.2 hk (by simp)⟩

set_option maxHeartbeats 1600000 in
set_option maxRecDepth 100000 in
theorem times_true (r : Nat) (s : Rx.Bytes) (fold : Bool) (w : World) (hr : Rd w r s true fold) :
    Calls Tryz.prog 85 #[.pointer (some ⟨r, 0, none⟩)] w fun e w' => TimesPost r s true fold e w' ∧ Kept (· = r) w w' := by
  have HP : Hid (∀ x, Rx.times true s = x → ∀ e w', (match x with
    | none => e = .panicked [{ v := brokenV, recovered := false }]
    | some (x, s') => e = .returned (timesVal x) ∧ RdAt w' r s' true fold) → TimesPost r s true fold e w') := by
    rintro x rfl e w' h; exact h
  generalize TimesPost r s true fold = POST at HP ⊢
  have G : Go1 w w r s true fold := ⟨hr, Kept.refl _ _⟩
  have c1 := G.ext
  clear hr
  go_enter Tryz.func85, Tryz.ntmps85
  cases h42 : Rx.take [42] s with
  | some u =>
    have hc := G.take [42] _ h42
    go_wp2_with fail
    refine hc.mono ?_
    rintro e wy ⟨rfl, G1⟩
    clear hc
    have HX : Hid (Rx.times true s = some (some (0, -1), u)) := by show _ = _; simp [Rx.times, h42]
    clear h42
    go_wp2_with fail
    go_ret3
    exact ⟨HP.out _ HX.out _ _ ⟨rfl, G1.rd.at_⟩, G1.kept⟩
  | none =>
    have hc := G.take [42] _ h42
    go_wp2_with fail
    refine hc.mono ?_
    rintro e wy ⟨rfl, G1⟩
    clear hc
    have c1 := G1.ext
    cases h43 : Rx.take [43] s with
    | some u =>
      have hc := G1.take [43] _ h43
      go_wp2_with fail
      refine hc.mono ?_
      rintro e wy ⟨rfl, G2⟩
      clear hc
      have HX : Hid (Rx.times true s = some (some (1, -1), u)) := by show _ = _; simp [Rx.times, h42, h43]
      clear h42 h43
      go_wp2_with fail
      go_ret3
      exact ⟨HP.out _ HX.out _ _ ⟨rfl, G2.rd.at_⟩, G2.kept⟩
    | none =>
      have hc := G1.take [43] _ h43
      go_wp2_with fail
      refine hc.mono ?_
      rintro e wy ⟨rfl, G2⟩
      clear hc
      have c1 := G2.ext
      cases h63 : Rx.take [63] s with
      | some u =>
        have hc := G2.take [63] _ h63
        go_wp2_with fail
        refine hc.mono ?_
        rintro e wy ⟨rfl, G3⟩
        clear hc
        have HX : Hid (Rx.times true s = some (some (0, 1), u)) := by show _ = _; simp [Rx.times, h42, h43, h63]
        clear h42 h43 h63
        go_wp2_with fail
        go_ret3
        exact ⟨HP.out _ HX.out _ _ ⟨rfl, G3.rd.at_⟩, G3.kept⟩
      | none =>
        have hc := G2.take [63] _ h63
        go_wp2_with fail
        refine hc.mono ?_
        rintro e wy ⟨rfl, G3⟩
        clear hc
        cases ho : Rx.take [123] s with
        | some u =>
          have hc := G3.take [123] _ ho
          go_wp2_with fail
          refine hc.mono ?_
          rintro e wy ⟨rfl, G4⟩
          clear hc
          simp only [Option.getD_some] at G4
          cases hn : Rx.number u with
          | none =>
            have hc := G4.number _ hn
            go_wp2_with fail
            refine hc.mono ?_
            rintro e wy ⟨rfl, hk⟩
            have HX : Hid (Rx.times true s = none) := by show _ = _; simp [Rx.times, h42, h43, h63, ho, hn]
            clear h42 h43 h63 ho hn
            go_wp2_with fail
            exact ⟨rfl, HP.out _ HX.out _ _ rfl, hk⟩
          | some y =>
            obtain ⟨m, u1⟩ := y
            have hc := G4.number _ hn
            go_wp2_with fail
            refine hc.mono ?_
            rintro e wy ⟨rfl, G5⟩
            clear hc
            cases hco : Rx.take [44] u1 with
            | none =>
              have hc := G5.take [44] _ hco
              go_wp2_with fail
              refine hc.mono ?_
              rintro e wy ⟨rfl, G6⟩
              clear hc
              simp only [Option.getD_none] at G6
              cases hsh : Rx.take [125] u1 with
              | none =>
                have hc := G6.must [125] _ hsh
                have HX : Hid (Rx.times true s = none) := by show _ = _; simp [Rx.times, h42, h43, h63, ho, hn, hco, hsh]
                go_wp2_with fail
                refine hc.mono ?_
                rintro e wz ⟨rfl, hk⟩
                clear hc h42 h43 h63 ho hn hco hsh
                go_wp2_with fail
                exact ⟨rfl, HP.out _ HX.out _ _ rfl, hk⟩
              | some v =>
                have hc := G6.must [125] _ hsh
                have HX : Hid (Rx.times true s = some (some (m, (m : Int)), v)) := by show _ = _; simp [Rx.times, h42, h43, h63, ho, hn, hco, hsh]
                go_wp2_with fail
                refine hc.mono ?_
                rintro e wz ⟨rfl, G9⟩
                clear hc h42 h43 h63 ho hn hco hsh
                go_wp2_with fail
                go_ret3
                exact ⟨HP.out _ HX.out _ _ ⟨rfl, G9.rd.at_⟩, G9.kept⟩
            | some u2 =>
              have hc := G5.take [44] _ hco
              go_wp2_with fail
              refine hc.mono ?_
              rintro e wy ⟨rfl, G6⟩
              clear hc
              simp only [Option.getD_some] at G6
              have c0 := G6.cell
              have hp := hasPrefix_any u2 [125]
              cases hq : ([125] : Rx.Bytes).isPrefixOf u2 with
              | true =>
                rw [hq] at hp
                go_wp2_with fail
                refine (hp _).mono ?_
                rintro e wy ⟨rfl, rfl⟩
                clear hp c0
                cases hsh : Rx.take [125] u2 with
                | none =>
                  have hc := G6.must [125] _ hsh
                  have HX : Hid (Rx.times true s = none) := by show _ = _; simp [Rx.times, h42, h43, h63, ho, hn, hco, hq, hsh]
                  go_wp2_with fail
                  refine hc.mono ?_
                  rintro e wz ⟨rfl, hk⟩
                  clear hc h42 h43 h63 ho hn hco hq hsh
                  go_wp2_with fail
                  exact ⟨rfl, HP.out _ HX.out _ _ rfl, hk⟩
                | some v =>
                  have hc := G6.must [125] _ hsh
                  have HX : Hid (Rx.times true s = some (some (m, (-1)), v)) := by show _ = _; simp [Rx.times, h42, h43, h63, ho, hn, hco, hq, hsh]
                  go_wp2_with fail
                  refine hc.mono ?_
                  rintro e wz ⟨rfl, G9⟩
                  clear hc h42 h43 h63 ho hn hco hq hsh
                  go_wp2_with fail
                  go_ret3
                  exact ⟨HP.out _ HX.out _ _ ⟨rfl, G9.rd.at_⟩, G9.kept⟩
              | false =>
                rw [hq] at hp
                go_wp2_with fail
                refine (hp _).mono ?_
                rintro e wy ⟨rfl, rfl⟩
                clear hp c0
                cases hn2 : Rx.number u2 with
                | none =>
                  have hc := G6.number _ hn2
                  go_wp2_with fail
                  refine hc.mono ?_
                  rintro e wy ⟨rfl, hk⟩
                  have HX : Hid (Rx.times true s = none) := by show _ = _; simp [Rx.times, h42, h43, h63, ho, hn, hco, hq, hn2]
                  clear h42 h43 h63 ho hn hco hq hn2
                  go_wp2_with fail
                  exact ⟨rfl, HP.out _ HX.out _ _ rfl, hk⟩
                | some y =>
                  obtain ⟨n, u3⟩ := y
                  have hc := G6.number _ hn2
                  go_wp2_with fail
                  refine hc.mono ?_
                  rintro e wy ⟨rfl, G7⟩
                  clear hc
                  by_cases hlt : n < m
                  · have HX : Hid (Rx.times true s = none) := by show _ = _; simp [Rx.times, h42, h43, h63, ho, hn, hco, hq, hn2, hlt]
                    have hlt2 : (n : Int) < m := by omega
                    clear h42 h43 h63 ho hn hco hq hn2 hlt
                    go_wp2_with fail
                    refine (fail_any _).mono ?_
                    rintro e wz ⟨rfl, rfl⟩
                    go_wp2_with fail
                    exact ⟨rfl, HP.out _ HX.out _ _ rfl, G7.kept⟩
                  · have hlt2 : ¬ (n : Int) < m := by omega
                    cases hsh : Rx.take [125] u3 with
                    | none =>
                      have hc := G7.must [125] _ hsh
                      have HX : Hid (Rx.times true s = none) := by show _ = _; simp [Rx.times, h42, h43, h63, ho, hn, hco, hq, hn2, hlt, hsh]
                      go_wp2_with fail
                      refine hc.mono ?_
                      rintro e wz ⟨rfl, hk⟩
                      clear hc h42 h43 h63 ho hn hco hq hn2 hlt hsh
                      go_wp2_with fail
                      exact ⟨rfl, HP.out _ HX.out _ _ rfl, hk⟩
                    | some v =>
                      have hc := G7.must [125] _ hsh
                      have HX : Hid (Rx.times true s = some (some (m, (n : Int)), v)) := by show _ = _; simp [Rx.times, h42, h43, h63, ho, hn, hco, hq, hn2, hlt, hsh]
                      go_wp2_with fail
                      refine hc.mono ?_
                      rintro e wz ⟨rfl, G9⟩
                      clear hc h42 h43 h63 ho hn hco hq hn2 hlt hsh
                      go_wp2_with fail
                      go_ret3
                      exact ⟨HP.out _ HX.out _ _ ⟨rfl, G9.rd.at_⟩, G9.kept⟩
        | none =>
          have hc := G3.take [123] _ ho
          go_wp2_with fail
          refine hc.mono ?_
          rintro e wy ⟨rfl, G4⟩
          clear hc
          have HX : Hid (Rx.times true s = some (none, s)) := by show _ = _; simp [Rx.times, h42, h43, h63, ho]
          clear h42 h43 h63 ho
          go_wp2_with fail
          go_ret3
          exact ⟨HP.out _ HX.out _ _ ⟨rfl, G4.rd.at_⟩, G4.kept⟩

set_option maxHeartbeats 1600000 in
set_option maxRecDepth 100000 in
theorem times_false (r : Nat) (s : Rx.Bytes) (fold : Bool) (w : World) (hr : Rd w r s false fold) :
    Calls Tryz.prog 85 #[.pointer (some ⟨r, 0, none⟩)] w fun e w' => TimesPost r s false fold e w' ∧ Kept (· = r) w w' := by
  have HP : Hid (∀ x, Rx.times false s = x → ∀ e w', (match x with
    | none => e = .panicked [{ v := brokenV, recovered := false }]
    | some (x, s') => e = .returned (timesVal x) ∧ RdAt w' r s' false fold) → TimesPost r s false fold e w') := by
    rintro x rfl e w' h; exact h
  generalize TimesPost r s false fold = POST at HP ⊢
  have G : Go1 w w r s false fold := ⟨hr, Kept.refl _ _⟩
  have c1 := G.ext
  clear hr
  go_enter Tryz.func85, Tryz.ntmps85
  cases h42 : Rx.take [42] s with
  | some u =>
    have hc := G.take [42] _ h42
    go_wp2_with fail
    refine hc.mono ?_
    rintro e wy ⟨rfl, G1⟩
    clear hc
    have HX : Hid (Rx.times false s = some (some (0, -1), u)) := by show _ = _; simp [Rx.times, h42]
    clear h42
    go_wp2_with fail
    go_ret3
    exact ⟨HP.out _ HX.out _ _ ⟨rfl, G1.rd.at_⟩, G1.kept⟩
  | none =>
    have hc := G.take [42] _ h42
    go_wp2_with fail
    refine hc.mono ?_
    rintro e wy ⟨rfl, G1⟩
    clear hc
    have c1 := G1.ext
    cases ho : Rx.take [92, 123] s with
    | some u =>
      have hc := G1.take [92, 123] _ ho
      go_wp2_with fail
      refine hc.mono ?_
      rintro e wy ⟨rfl, G4⟩
      clear hc
      simp only [Option.getD_some] at G4
      cases hn : Rx.number u with
      | none =>
        have hc := G4.number _ hn
        go_wp2_with fail
        refine hc.mono ?_
        rintro e wy ⟨rfl, hk⟩
        have HX : Hid (Rx.times false s = none) := by show _ = _; simp [Rx.times, h42, ho, hn]
        clear h42 ho hn
        go_wp2_with fail
        exact ⟨rfl, HP.out _ HX.out _ _ rfl, hk⟩
      | some y =>
        obtain ⟨m, u1⟩ := y
        have hc := G4.number _ hn
        go_wp2_with fail
        refine hc.mono ?_
        rintro e wy ⟨rfl, G5⟩
        clear hc
        cases hco : Rx.take [44] u1 with
        | none =>
          have hc := G5.take [44] _ hco
          go_wp2_with fail
          refine hc.mono ?_
          rintro e wy ⟨rfl, G6⟩
          clear hc
          simp only [Option.getD_none] at G6
          cases hsh : Rx.take [92, 125] u1 with
          | none =>
            have hc := G6.must [92, 125] _ hsh
            have HX : Hid (Rx.times false s = none) := by show _ = _; simp [Rx.times, h42, ho, hn, hco, hsh]
            go_wp2_with fail
            refine hc.mono ?_
            rintro e wz ⟨rfl, hk⟩
            clear hc h42 ho hn hco hsh
            go_wp2_with fail
            exact ⟨rfl, HP.out _ HX.out _ _ rfl, hk⟩
          | some v =>
            have hc := G6.must [92, 125] _ hsh
            have HX : Hid (Rx.times false s = some (some (m, (m : Int)), v)) := by show _ = _; simp [Rx.times, h42, ho, hn, hco, hsh]
            go_wp2_with fail
            refine hc.mono ?_
            rintro e wz ⟨rfl, G9⟩
            clear hc h42 ho hn hco hsh
            go_wp2_with fail
            go_ret3
            exact ⟨HP.out _ HX.out _ _ ⟨rfl, G9.rd.at_⟩, G9.kept⟩
        | some u2 =>
          have hc := G5.take [44] _ hco
          go_wp2_with fail
          refine hc.mono ?_
          rintro e wy ⟨rfl, G6⟩
          clear hc
          simp only [Option.getD_some] at G6
          have c0 := G6.cell
          have hp := hasPrefix_any u2 [92, 125]
          cases hq : ([92, 125] : Rx.Bytes).isPrefixOf u2 with
          | true =>
            rw [hq] at hp
            go_wp2_with fail
            refine (hp _).mono ?_
            rintro e wy ⟨rfl, rfl⟩
            clear hp c0
            cases hsh : Rx.take [92, 125] u2 with
            | none =>
              have hc := G6.must [92, 125] _ hsh
              have HX : Hid (Rx.times false s = none) := by show _ = _; simp [Rx.times, h42, ho, hn, hco, hq, hsh]
              go_wp2_with fail
              refine hc.mono ?_
              rintro e wz ⟨rfl, hk⟩
              clear hc h42 ho hn hco hq hsh
              go_wp2_with fail
              exact ⟨rfl, HP.out _ HX.out _ _ rfl, hk⟩
            | some v =>
              have hc := G6.must [92, 125] _ hsh
              have HX : Hid (Rx.times false s = some (some (m, (-1)), v)) := by show _ = _; simp [Rx.times, h42, ho, hn, hco, hq, hsh]
              go_wp2_with fail
              refine hc.mono ?_
              rintro e wz ⟨rfl, G9⟩
              clear hc h42 ho hn hco hq hsh
              go_wp2_with fail
              go_ret3
              exact ⟨HP.out _ HX.out _ _ ⟨rfl, G9.rd.at_⟩, G9.kept⟩
          | false =>
            rw [hq] at hp
            go_wp2_with fail
            refine (hp _).mono ?_
            rintro e wy ⟨rfl, rfl⟩
            clear hp c0
            cases hn2 : Rx.number u2 with
            | none =>
              have hc := G6.number _ hn2
              go_wp2_with fail
              refine hc.mono ?_
              rintro e wy ⟨rfl, hk⟩
              have HX : Hid (Rx.times false s = none) := by show _ = _; simp [Rx.times, h42, ho, hn, hco, hq, hn2]
              clear h42 ho hn hco hq hn2
              go_wp2_with fail
              exact ⟨rfl, HP.out _ HX.out _ _ rfl, hk⟩
            | some y =>
              obtain ⟨n, u3⟩ := y
              have hc := G6.number _ hn2
              go_wp2_with fail
              refine hc.mono ?_
              rintro e wy ⟨rfl, G7⟩
              clear hc
              by_cases hlt : n < m
              · have HX : Hid (Rx.times false s = none) := by show _ = _; simp [Rx.times, h42, ho, hn, hco, hq, hn2, hlt]
                have hlt2 : (n : Int) < m := by omega
                clear h42 ho hn hco hq hn2 hlt
                go_wp2_with fail
                refine (fail_any _).mono ?_
                rintro e wz ⟨rfl, rfl⟩
                go_wp2_with fail
                exact ⟨rfl, HP.out _ HX.out _ _ rfl, G7.kept⟩
              · have hlt2 : ¬ (n : Int) < m := by omega
                cases hsh : Rx.take [92, 125] u3 with
                | none =>
                  have hc := G7.must [92, 125] _ hsh
                  have HX : Hid (Rx.times false s = none) := by show _ = _; simp [Rx.times, h42, ho, hn, hco, hq, hn2, hlt, hsh]
                  go_wp2_with fail
                  refine hc.mono ?_
                  rintro e wz ⟨rfl, hk⟩
                  clear hc h42 ho hn hco hq hn2 hlt hsh
                  go_wp2_with fail
                  exact ⟨rfl, HP.out _ HX.out _ _ rfl, hk⟩
                | some v =>
                  have hc := G7.must [92, 125] _ hsh
                  have HX : Hid (Rx.times false s = some (some (m, (n : Int)), v)) := by show _ = _; simp [Rx.times, h42, ho, hn, hco, hq, hn2, hlt, hsh]
                  go_wp2_with fail
                  refine hc.mono ?_
                  rintro e wz ⟨rfl, G9⟩
                  clear hc h42 ho hn hco hq hn2 hlt hsh
                  go_wp2_with fail
                  go_ret3
                  exact ⟨HP.out _ HX.out _ _ ⟨rfl, G9.rd.at_⟩, G9.kept⟩
    | none =>
      have hc := G1.take [92, 123] _ ho
      go_wp2_with fail
      refine hc.mono ?_
      rintro e wy ⟨rfl, G4⟩
      clear hc
      have HX : Hid (Rx.times false s = some (none, s)) := by show _ = _; simp [Rx.times, h42, ho]
      clear h42 ho
      go_wp2_with fail
      go_ret3
      exact ⟨HP.out _ HX.out _ _ ⟨rfl, G4.rd.at_⟩, G4.kept⟩

theorem times_any (r : Nat) (s : Rx.Bytes) (ext fold : Bool) (w : World) (hr : Rd w r s ext fold) :
    Calls Tryz.prog 85 #[.pointer (some ⟨r, 0, none⟩)] w fun e w' => TimesPost r s ext fold e w' ∧ Kept (· = r) w w' := by
  cases ext with
  | true => exact times_true r s fold w hr
  | false => exact times_false r s fold w hr

end Go.Proofs.YthdkbbkkijdhfaaGreatDoor
