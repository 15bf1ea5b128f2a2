/-
  The walk of part. Condition: what is told lies in memory.
-/
import Derived.Test.YthdkbbkkijdhfaaGreatDoorW7
namespace Go.Proofs.YthdkbbkkijdhfaaGreatDoor
open Go.RowKit Go.Shelf Go.Maps

theorem within_self (c : UInt8) (h : Rx.Has) : (fun e => h e || Rx.within e c c) = fun d => h d || d == c := by
  funext d
  congr 1
  unfold Rx.within
  rw [Bool.eq_iff_iff]
  simp only [Bool.and_eq_true, decide_eq_true_eq, beq_iff_eq, UInt8.le_iff_toNat_le]
  constructor
  · rintro ⟨h1, h2⟩; exact UInt8.toNat_inj.1 (by omega)
  · rintro rfl; exact ⟨Nat.le_refl _, Nat.le_refl _⟩

theorem named_len {k : UInt8} {s s' : Rx.Bytes} {c : UInt8} (h : Rx.named k s = some (c, s')) : s'.length < s.length := by
  unfold Rx.named at h
  split at h
  · split at h
    · simp at h; obtain ⟨-, rfl⟩ := h; simp; omega
    · cases h
  · cases h
theorem lower_len {s s' : Rx.Bytes} {c : UInt8} (h : Rx.lower s = some (c, s')) : s'.length < s.length := by
  unfold Rx.lower at h
  split at h
  · rename_i x hx; cases h; exact named_len hx
  · split at h
    · cases h
    · cases h; simp

def PartPost (r b : Nat) (h : Rx.Has) (s : Rx.Bytes) (ext fold : Bool) (e : Ending) (w' : World) : Prop := match Rx.part h s with
  | none => e = .panicked [{ v := brokenV, recovered := false }]
  | some (h', s') => e = .returned (.tuple #[]) ∧ RdAt w' r s' ext fold ∧ Blk w' b (setCells h') 87

/-- What named hands back, in one sentence. -/
def NamedAns (k : UInt8) (s : Rx.Bytes) (c : UInt8) (is : Bool) (s0 : Rx.Bytes) : Prop := (is = true ∧ Rx.named k s = some (c, s0)) ∨ (is = false ∧ Rx.named k s = none ∧ c = 0 ∧ s0 = s)

theorem named_ans (r : Nat) (k : UInt8) (s : Rx.Bytes) (ext fold : Bool) (w : World) (h : RdAt w r s ext fold) :
    Calls Tryz.prog 115 #[.pointer (some ⟨r, 0, none⟩), .string ⟨#[k]⟩] w fun e w' => (∃ c is s0, e = .returned (.tuple #[.int .u8 c.toNat, .bool is]) ∧ RdAt w' r s0 ext fold ∧ Hid (NamedAns k s c is s0)) ∧ Kept (· = r) w w' := by
  refine (named_any r k s ext fold w h).mono ?_
  rintro e w' ⟨h1, hk⟩
  refine ⟨?_, hk⟩
  unfold NamedPost at h1
  cases hn : Rx.named k s with
  | none => rw [hn] at h1; exact ⟨0, false, s, h1.1, h1.2, .inr ⟨rfl, hn, rfl, rfl⟩⟩
  | some x => obtain ⟨c, s0⟩ := x; rw [hn] at h1; exact ⟨c, true, s0, h1.1, h1.2, .inl ⟨rfl, hn⟩⟩

/-- What the reader keeps while a set is read. -/
structure InSet (w wx : World) (r b : Nat) (h : Rx.Has) (s : Rx.Bytes) (ext fold : Bool) : Prop where
  rd : RdAt wx r s ext fold
  nd : Blk wx b (setCells h) 87
  kept : Kept (fun k => k = r ∨ k = b) w wx

theorem InSet.go {w wx w' : World} {r b : Nat} {h : Rx.Has} {s s' : Rx.Bytes} {ext fold : Bool} (I : InSet w wx r b h s ext fold) (hne : r ≠ b) (hr : RdAt w' r s' ext fold) (hk : Kept (· = r) wx w') : InSet w w' r b h s' ext fold :=
  ⟨hr, I.nd.kept hk (Ne.symm hne), I.kept.trans (hk.mono fun _ _ h => .inl h)⟩
theorem InSet.set {w wx : World} {r b : Nat} {h : Rx.Has} {s : Rx.Bytes} {ext fold : Bool} (I : InSet w wx r b h s ext fold) (hne : r ≠ b) (i : Nat) (hi : i < 256) (v : Bool) : InSet w (wx.setCell ⟨b, 1 + i, none⟩ (.bool v)) r b (fun c => if c.toNat = i then v else h c) s ext fold := by
  refine ⟨I.rd.setOther (a := ⟨b, 1 + i, none⟩) hne _, ?_, I.kept.setCell (.inl (.inr rfl)) _ _⟩
  have h5 := I.nd.set (1 + i) (.bool v)
  unfold setCells at h5 ⊢
  rw [nd_set _ _ _ _ _ _ hi] at h5
  exact h5
theorem InSet.cell {w wx : World} {r b : Nat} {h : Rx.Has} {s : Rx.Bytes} {ext fold : Bool} (I : InSet w wx r b h s ext fold) : wx.cell? ⟨r, 0, none⟩ = some (.string ⟨s.toArray⟩) := Blk.cell I.rd 0 rfl

theorem set_eq (h : Rx.Has) (c : UInt8) : (fun d : UInt8 => if d.toNat = c.toNat then true else h d) = fun d => h d || d == c := by
  funext d
  by_cases hd : d = c
  · subst hd; simp
  · rw [if_neg (fun h2 => hd (UInt8.toNat_inj.1 h2))]
    have : (d == c) = false := by simp [hd]
    rw [this, Bool.or_false]

theorem setTo_step (h : Rx.Has) (a k : Nat) (hak : a ≤ k) : (fun d : UInt8 => if d.toNat = k then true else h d || (decide (a ≤ d.toNat) && decide (d.toNat < k))) = fun d => h d || (decide (a ≤ d.toNat) && decide (d.toNat < k + 1)) := by
  funext d
  by_cases hd : d.toNat = k
  · rw [if_pos hd]
    have h1 : decide (a ≤ d.toNat) = true := by simp; omega
    have h2 : decide (d.toNat < k + 1) = true := by simp; omega
    rw [h1, h2]; simp
  · rw [if_neg hd]
    have h2 : decide (d.toNat < k + 1) = decide (d.toNat < k) := by congr 1; apply propext; omega
    rw [h2]

theorem lower_cases {s : Rx.Bytes} {c0 : UInt8} {is0 : Bool} {s0 : Rx.Bytes} (h : NamedAns 46 s c0 is0 s0) : (is0 = true ∧ Rx.lower s = some (c0, s0)) ∨ (is0 = false ∧ s0 = s ∧ ((s = [] ∧ Rx.lower s = none) ∨ ∃ c s1, s = c :: s1 ∧ Rx.lower s = some (c, s1))) := by
  unfold Rx.lower
  rcases h with ⟨h1, h2⟩ | ⟨h1, h2, -, h4⟩
  · left; rw [h2]; exact ⟨h1, rfl⟩
  · right; rw [h2]; refine ⟨h1, h4, ?_⟩
    cases s with
    | nil => left; exact ⟨rfl, rfl⟩
    | cons c s1 => right; exact ⟨c, s1, rfl, rfl⟩

set_option maxHeartbeats 1600000 in
set_option maxRecDepth 100000 in
theorem part_any (r b : Nat) (h : Rx.Has) (s : Rx.Bytes) (ext fold : Bool) (w : World) (hr : Rd w r s ext fold) (hb : Blk w b (setCells h) 87) :
    Calls Tryz.prog 102 #[.pointer (some ⟨r, 0, none⟩), .pointer (some ⟨b, 0, none⟩)] w fun e w' => PartPost r b h s ext fold e w' ∧ Kept (fun k => k = r ∨ k = b) w w' := by
  have hne := rd_ne hr.at_ hb
  have hcls := class_any r b h s ext fold w hr hb
  have hpart : Hid (∀ x, Rx.part h s = x → ∀ e w', PartPost r b h s ext fold e w' = match x with
    | none => e = .panicked [{ v := brokenV, recovered := false }]
    | some (h', s') => e = .returned (.tuple #[]) ∧ RdAt w' r s' ext fold ∧ Blk w' b (setCells h') 87) := by
    rintro x rfl e w'; rfl
  unfold ClassPost at hcls
  rcases hc : Rx.cls h s with _ | _ | ⟨h', s'⟩
  · rw [hc] at hcls
    have HX : Hid (Rx.part h s = none) := by show _ = _; unfold Rx.part; rw [hc]
    clear hb hr hc
    go_enter Tryz.func102, Tryz.ntmps102
    go_wp2_with fail
    refine hcls.mono ?_
    rintro e w' ⟨rfl, hk⟩
    go_wp2_with fail
    exact ⟨rfl, (hpart.out _ HX.out _ _).mpr rfl, hk⟩
  · rw [hc] at hcls
    have HC := Lib.hid hc
    have HR := Lib.hid hr
    clear hb hr hc
    go_enter Tryz.func102, Tryz.ntmps102
    go_wp2_with fail
    refine hcls.mono ?_
    rintro e w1 ⟨⟨rfl, hr1, hb1⟩, hk1⟩
    clear hcls
    have I : InSet w w1 r b h s ext fold := ⟨hr1, hb1, hk1⟩
    have hn := named_ans r 61 s ext fold w1 hr1
    clear hr1 hb1 hk1
    go_wp2_with fail
    refine hn.mono ?_
    rintro e w2 ⟨⟨c0, is0, s0, rfl, hr2, HA⟩, hk2⟩
    have I2 := I.go hne hr2 hk2
    clear hr2 hk2 I hn w1
    rcases HA.out with ⟨rfl, h61⟩ | ⟨rfl, h61, rfl, rfl⟩
    · have HX : Hid (Rx.part h s = some (fun d => h d || d == c0, s0)) := by show _ = _; unfold Rx.part; rw [HC.out, h61]
      have f0 := I2.nd.free (1 + c0.toNat)
      have hcl := c0.toNat_lt
      have x0 := I2.nd.cell (1 + c0.toNat) (nd_has _ _ _ _ _ c0.toNat hcl)
      clear h61
      go_wp2_with fail
      refine bodyPost_ret (results_none rfl _ _ _) rfl ?_
      have I3 := I2.set hne c0.toNat hcl true
      rw [set_eq] at I3
      rw [hpart.out _ HX.out]
      exact ⟨⟨rfl, I3.rd, I3.nd⟩, I3.kept⟩
    · have HX : Hid (Rx.part h s0 = match Rx.lower s0 with
        | none => none
        | some (c, r) => match Rx.rangeOf c r with
          | none => none
          | some (d, r2) => some (fun e => h e || Rx.within e c d, r2)) := by show _ = _; unfold Rx.part; rw [HC.out, h61]; rfl
      clear h61 HA HC
      have hn := named_ans r 46 s0 ext fold w2 I2.rd
      go_wp2_with fail
      refine hn.mono ?_
      rintro e w3 ⟨⟨c1, is1, s1, rfl, hr3, HA⟩, hk3⟩
      have I3 := I2.go hne hr3 hk3
      clear hr3 hk3 I2 hn w2
      go_upto_if 30 with fail
      go_cut [6, 7, 24, 26, 28, 29, 30, 31, 32] (fun s6 _s7 _s24 _s26 _s28 _s29 _s30 _s31 _s32 wx => ∃ c s1, Hid (Rx.lower s0 = some (c, s1)) ∧ s6 = .int .u8 c.toNat ∧ InSet w wx r b h s1 ext fold)
      case first =>
        rcases lower_cases HA.out with ⟨rfl, hl⟩ | ⟨rfl, rfl, ⟨rfl, hl⟩ | ⟨c, s2, hs, hl⟩⟩
        · have HL := Lib.hid hl
          clear hl HA
          go_wp2_with fail
          go_meet
          exact ⟨c1, s1, HL, rfl, I3⟩
        · have HL := Lib.hid hl
          clear hl HA
          have hx := next_any r [] ext fold w3 I3.rd
          unfold NextPost at hx
          go_wp2_with fail
          refine hx.mono ?_
          rintro e w4 ⟨rfl, hk4⟩
          go_wp2_with fail
          exact ⟨rfl, (hpart.out none (by rw [HX.out, HL.out]) _ _).mpr rfl, I3.kept.trans (hk4.mono fun _ _ h => .inl h)⟩
        · have HL := Lib.hid hl
          have hx := next_any r s1 ext fold w3 I3.rd
          unfold NextPost at hx
          rw [hs] at hx
          have HS := Lib.hid hs
          clear hl HA hs
          go_wp2_with fail
          refine hx.mono ?_
          rintro e w4 ⟨⟨rfl, hr4⟩, hk4⟩
          go_wp2_with fail
          go_meet
          exact ⟨c, s2, HL, rfl, I3.go hne hr4 hk4⟩
      case rest =>
        obtain ⟨c, s2, HL, rfl, I4⟩ := hcut
        clear HA I3
        have HX2 : Hid (Rx.part h s0 = match Rx.rangeOf c s2 with
          | none => none
          | some (d, r2) => some (fun e => h e || Rx.within e c d, r2)) := by show _ = _; rw [HX.out, HL.out]
        clear HX HL
        have cr := I4.cell
        go_upto_region 8 with fail
        go_cut [34, 35, 36, 37, 38, 39, 40, 41, 42, 43, 44, 45, 46, 47, 48, 49, 50, 51, 52, 53, 54, 55] (fun _s34 _s35 _s36 _s37 _s38 _s39 _s40 _s41 _s42 _s43 _s44 _s45 _s46 _s47 _s48 _s49 _s50 _s51 _s52 _s53 _s54 s55 wx => s55 = .bool (Rx.isRange s2) ∧ wx = wc)
        case first =>
          have HI := Lib.hid I4
          rcases s2 with _ | ⟨a, _ | ⟨x, q⟩⟩
          · have HR2 : Hid (Rx.isRange [] = false) := by show _ = _; rfl
            clear I4
            go_wp2_with fail
            go_meet
            exact ⟨by rw [HR2.out], rfl⟩
          · have HR2 : Hid (Rx.isRange [a] = false) := by show _ = _; rfl
            clear I4
            go_wp2_with fail
            go_meet
            exact ⟨by rw [HR2.out], rfl⟩
          · have HR2 : Hid (Rx.isRange (a :: x :: q) = ((a == 45) && (x != 93))) := by show _ = _; unfold Rx.isRange; rw [show decide (1 < (a :: x :: q).length) = true by simp]; rfl
            have hlen : decide ((1 : Int) < (q.length : Int) + 1 + 1) = true := by simp; omega
            clear I4
            by_cases ha : a = 45
            · subst ha
              go_wp2_with fail
              go_meet
              refine ⟨congrArg Value.bool ?_, rfl⟩
              rw [HR2.out]
              show ((x.toNat : Int) != 93) = (x != 93)
              unfold bne
              rw [u8_beq]; rfl
            · have hx1 : ((a.toNat : Int) == 45) = false := by rw [← show ((45 : UInt8).toNat : Int) = 45 from rfl, ← u8_beq]; simpa using ha
              have HX1 := Lib.hid ha
              have hx3 : ¬ ((a.toNat : Int) = 45) := by simpa using hx1
              clear ha hx1
              go_wp2_with fail
              go_meet
              exact ⟨by rw [HR2.out]; simp [HX1.out], rfl⟩
        case rest =>
          obtain ⟨rfl, rfl⟩ := hcut
          go_upto_if 55 with fail
          go_cut [7, 8, 55, 56, 57, 58, 59, 60, 61, 62, 63, 64, 65, 66, 67, 68, 69, 70, 71, 72, 73, 74, 75, 76, 77] (fun _s7 s8 _s55 _s56 _s57 _s58 _s59 _s60 _s61 _s62 _s63 _s64 _s65 _s66 _s67 _s68 _s69 _s70 _s71 _s72 _s73 _s74 _s75 _s76 _s77 wx => ∃ d s3, Hid (Rx.rangeOf c s2 = some (d, s3)) ∧ Hid (c ≤ d) ∧ s8 = .int .u8 d.toNat ∧ InSet w wx r b h s3 ext fold)
          case first =>
            cases hir : Rx.isRange s2 with
            | false =>
              have HR2 : Hid (Rx.rangeOf c s2 = some (c, s2)) := by show _ = _; unfold Rx.rangeOf; rw [hir]; rfl
              clear hir
              go_wp2_with fail
              go_meet
              exact ⟨c, s2, HR2, UInt8.le_refl c, rfl, I4⟩
            | true =>
              obtain ⟨t, rfl⟩ : ∃ t, s2 = 45 :: t := by
                unfold Rx.isRange at hir
                cases s2 with
                | nil => simp at hir
                | cons a t => simp at hir; exact ⟨t, by rw [hir.2.1]⟩
              have HR2 : Hid (Rx.rangeOf c (45 :: t) = match Rx.upper t with
                | none => none
                | some (d, r2) => if d < c then none else some (d, r2)) := by show _ = _; unfold Rx.rangeOf; rw [hir]; rfl
              clear hir
              have hx := next_any r (45 :: t) ext fold _ I4.rd
              unfold NextPost at hx
              go_wp2_with fail
              refine hx.mono ?_
              rintro e w5 ⟨⟨rfl, hr5⟩, hk5⟩
              have I5 := I4.go hne hr5 hk5
              clear hr5 hk5 I4 hx cr
              have hn := named_ans r 46 t ext fold w5 I5.rd
              go_wp2_with fail
              refine hn.mono ?_
              rintro e w6 ⟨⟨d1, is1, s5, rfl, hr6, HA⟩, hk6⟩
              have I6 := I5.go hne hr6 hk6
              clear hr6 hk6 I5 hn
              go_upto_if 64 with fail
              go_cut [7, 8, 58, 60, 61, 62, 63, 64, 65, 66, 67, 68, 69, 70, 71, 72, 73] (fun _s7 s8 _s58 _s60 _s61 _s62 _s63 _s64 _s65 _s66 _s67 _s68 _s69 _s70 _s71 _s72 _s73 wx => ∃ d s6, Hid (Rx.upper t = some (d, s6)) ∧ s8 = .int .u8 d.toNat ∧ InSet w wx r b h s6 ext fold)
              case first =>
                rcases HA.out with ⟨rfl, h46⟩ | ⟨rfl, h46, rfl, rfl⟩
                · have HU : Hid (Rx.upper t = some (d1, s5)) := by show _ = _; unfold Rx.upper; rw [h46]
                  clear h46 HA
                  go_wp2_with fail
                  go_meet
                  exact ⟨d1, s5, HU, rfl, I6⟩
                · have hn := named_ans r 61 s5 ext fold w6 I6.rd
                  clear HA
                  have H46 := Lib.hid h46
                  clear h46
                  go_wp2_with fail
                  refine hn.mono ?_
                  rintro e w7 ⟨⟨d2, is2, s6, rfl, hr7, HA⟩, hk7⟩
                  have I7 := I6.go hne hr7 hk7
                  clear hr7 hk7 I6 hn
                  rcases HA.out with ⟨rfl, h61⟩ | ⟨rfl, h61, rfl, rfl⟩
                  · have HU : Hid (Rx.upper s5 = some (d2, s6)) := by show _ = _; unfold Rx.upper; rw [H46.out, h61]
                    clear h61 HA
                    go_wp2_with fail
                    go_meet
                    exact ⟨d2, s6, HU, rfl, I7⟩
                  · have hx := next_any r s6 ext fold w7 I7.rd
                    unfold NextPost at hx
                    cases hs : s6 with
                    | nil =>
                      have HU : Hid (Rx.upper s6 = none) := by show _ = _; unfold Rx.upper; rw [H46.out, h61, hs]
                      rw [hs] at hx
                      clear h61 HA hs
                      go_wp2_with fail
                      refine hx.mono ?_
                      rintro e w8 ⟨rfl, hk8⟩
                      go_wp2_with fail
                      exact ⟨rfl, (hpart.out none (by rw [HX2.out, HR2.out, HU.out]) _ _).mpr rfl, I7.kept.trans (hk8.mono fun _ _ h => .inl h)⟩
                    | cons d3 s8 =>
                      have HU : Hid (Rx.upper s6 = some (d3, s8)) := by show _ = _; unfold Rx.upper; rw [H46.out, h61, hs]
                      rw [hs] at hx
                      clear h61 HA hs
                      go_wp2_with fail
                      refine hx.mono ?_
                      rintro e w8 ⟨⟨rfl, hr8⟩, hk8⟩
                      go_wp2_with fail
                      go_meet
                      exact ⟨d3, s8, HU, rfl, I7.go hne hr8 hk8⟩
              case rest =>
                obtain ⟨d, s6, HU, rfl, I7⟩ := hcut
                clear HA I6
                by_cases hdc : d < c
                · have HR3 : Hid (Rx.rangeOf c (45 :: t) = none) := by show _ = _; rw [HR2.out, HU.out]; exact if_pos hdc
                  rw [u8_lt] at hdc
                  go_wp2_with fail
                  refine (fail_any _).mono ?_
                  rintro e w8 ⟨rfl, rfl⟩
                  go_wp2_with fail
                  exact ⟨rfl, (hpart.out none (by rw [HX2.out, HR3.out]) _ _).mpr rfl, I7.kept⟩
                · have HR3 : Hid (Rx.rangeOf c (45 :: t) = some (d, s6)) := by show _ = _; rw [HR2.out, HU.out]; exact if_neg hdc
                  have HLE : Hid (c ≤ d) := by show c ≤ d; exact UInt8.not_lt.1 hdc
                  rw [u8_lt] at hdc
                  go_wp2_with fail
                  go_meet
                  exact ⟨d, s6, HR3, HLE, rfl, I7⟩
          case rest =>
            obtain ⟨d, s3, HR3, HLE, rfl, I7⟩ := hcut
            have HX3 : Hid (Rx.part h s0 = some (fun e => h e || Rx.within e c d, s3)) := by show _ = _; rw [HX2.out, HR3.out]
            have hle : c.toNat ≤ d.toNat := UInt8.le_iff_toNat_le.1 HLE.out
            have hd256 := d.toNat_lt
            clear HX2 HR3 HLE I4 cr
            go_wp2_with fail
            go_loopw [9] (fun x9 wr => ∃ k : Nat, c.toNat ≤ k ∧ k ≤ d.toNat + 1 ∧ x9 = .int .i64 k ∧ InSet w wr r b (fun e => h e || (decide (c.toNat ≤ e.toNat) && decide (e.toNat < k))) s3 ext fold) (fun x9 _ => d.toNat + 1 - (intOf x9).toNat)
            case atStart =>
              refine ⟨c.toNat, Nat.le_refl _, by omega, by go_num, ?_⟩
              have e : (fun e : UInt8 => h e || (decide (c.toNat ≤ e.toNat) && decide (e.toNat < c.toNat))) = h := by
                funext e
                by_cases h1 : c.toNat ≤ e.toNat
                · rw [show decide (e.toNat < c.toNat) = false by simp; omega]; simp
                · rw [show decide (c.toNat ≤ e.toNat) = false by simp; omega]; simp
              rw [e]; exact I7
            case round =>
              clear I7
              obtain ⟨k, hck, hkd, rfl, I8⟩ := hrel
              by_cases hlt : k ≤ d.toNat
              · have hk256 : k < 256 := by omega
                have x0 := I8.nd.cell (1 + k) (nd_has _ _ _ _ _ k hk256)
                have f0 := I8.nd.free (1 + k)
                go_wp2_with fail
                refine ⟨⟨k + 1, by omega, by omega, by go_num, ?_⟩, ?_⟩
                · have I9 := I8.set hne k hk256 true
                  rw [setTo_step h c.toNat k hck] at I9
                  exact I9
                · show d.toNat + 1 - ((k : Int) + 1).toNat < d.toNat + 1 - (k : Int).toNat
                  omega
              · obtain rfl : k = d.toNat + 1 := by omega
                go_wp2_with fail
                go_end0
                refine ⟨(hpart.out _ HX3.out _ _).mpr ⟨rfl, I8.rd, ?_⟩, I8.kept⟩
                have e : (fun e : UInt8 => h e || (decide (c.toNat ≤ e.toNat) && decide (e.toNat < d.toNat + 1))) = fun e => h e || Rx.within e c d := by
                  funext e
                  unfold Rx.within
                  congr 1
                  rw [Bool.eq_iff_iff]
                  simp only [Bool.and_eq_true, decide_eq_true_eq, UInt8.le_iff_toNat_le]
                  omega
                have := I8.nd
                rw [e] at this
                exact this
  · rw [hc] at hcls
    have HX : Hid (Rx.part h s = some (h', s')) := by show _ = _; unfold Rx.part; rw [hc]
    clear hb hr hc
    go_enter Tryz.func102, Tryz.ntmps102
    go_wp2_with fail
    refine hcls.mono ?_
    rintro e w' ⟨⟨rfl, hr', hb'⟩, hk⟩
    go_wp2_with fail
    refine bodyPost_ret (results_none rfl _ _ _) rfl ?_
    rw [hpart.out _ HX.out]
    exact ⟨⟨rfl, hr', hb'⟩, hk⟩

end Go.Proofs.YthdkbbkkijdhfaaGreatDoor
