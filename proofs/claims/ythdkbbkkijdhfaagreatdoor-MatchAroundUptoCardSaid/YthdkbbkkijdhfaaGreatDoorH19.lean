/-
  Texts of this seat put together: R7.
-/
import Derived.Test.YthdkbbkkijdhfaaGreatDoorH18

/-
  The walk of the reference's part. Condition: the reader and the set lie in memory.
-/
namespace Go.Proofs.YthdkbbkkijdhfaaGreatDoor
open Go.RowKit Go.Shelf Go.Maps

theorem u8_beqF {a b : UInt8} (h : ¬ a = b) : ((a.toNat : Int) == (b.toNat : Int)) = false := by
  rw [← u8_beq]
  simpa using h

/-- What end hands back, in one sentence. -/
def EndAns (k : UInt8) (s : Rx.Bytes) (at_ : Nat) (c : UInt8) (is : Bool) (a2 : Nat) : Prop := (is = true ∧ a2 = at_ + 5 ∧ a2 ≤ s.length ∧ Rx.named k (s.drop at_) = some (c, s.drop a2)) ∨ (is = false ∧ a2 = at_ ∧ Rx.named k (s.drop at_) = none)

theorem RSet.end_ {w wx : World} {r b : Nat} {h : Rx.Has} {s : Rx.Bytes} {at_ : Nat} {ext fold bad : Bool} (I : RSet w wx r b h s at_ ext fold bad) (k : UInt8) (ha : at_ ≤ s.length) (hl : s.length < 1073741824) :
    Calls Tryz.prog 99 #[.pointer (some ⟨r, 0, none⟩), .string ⟨#[k]⟩] wx fun e w' => ∃ c is a2, e = .returned (.tuple #[.int .u8 c.toNat, .bool is]) ∧ RSet w w' r b h s a2 ext fold bad ∧ a2 ≤ s.length ∧ Hid (EndAns k s at_ c is a2) := by
  refine (rend_any r s k at_ ext fold bad wx I.rd ha hl).mono ?_
  rintro e w' ⟨h1, hk⟩
  unfold EndPost at h1
  cases hn : Rx.named k (s.drop at_) with
  | none => rw [hn] at h1; exact ⟨0, false, at_, h1.1, I.go h1.2 hk, ha, .inr ⟨rfl, rfl, hn⟩⟩
  | some x =>
    obtain ⟨c, u⟩ := x
    rw [hn] at h1
    have hx := hn
    rw [named_eq] at hx
    split at hx
    · rename_i hc
      have hlen := hc.1
      simp at hlen
      have h2 := (Prod.mk.inj (Option.some.inj hx)).2
      rw [List.drop_drop] at h2
      have hle : at_ + 5 ≤ s.length := by omega
      exact ⟨c, true, at_ + 5, h1.1, I.go h1.2 hk, hle, .inl ⟨rfl, rfl, hle, by rw [hn, h2]⟩⟩
    · cases hx

/-- What part hands back and leaves. -/
def RPartPost (w : World) (r b : Nat) (h : Rx.Has) (s : Rx.Bytes) (at_ : Nat) (ext fold bad : Bool) (e : Ending) (w' : World) : Prop := ∃ a2 b2 h2, e = .returned (.tuple #[]) ∧ RSet w w' r b h2 s a2 ext fold b2 ∧ at_ < a2 ∧ a2 ≤ s.length ∧ (bad = true → b2 = true) ∧ (b2 = false → Rx.part h (s.drop at_) = some (h2, s.drop a2))

theorem drop_at {s : Rx.Bytes} {a : Nat} (h : a < s.length) : ∃ c, s.drop a = c :: s.drop (a + 1) ∧ ∀ h, (⟨s.toArray⟩ : ByteArray)[a]'h = c :=
  ⟨s[a], by rw [List.drop_eq_getElem_cons h], fun _ => rfl⟩

theorem rlower {s : Rx.Bytes} {a : Nat} {c0 : UInt8} {is : Bool} {a2 : Nat} (h : EndAns 46 s a c0 is a2) (ha : a < s.length) : (is = true ∧ a < a2 ∧ Rx.lower (s.drop a) = some (c0, s.drop a2)) ∨ (is = false ∧ a2 = a ∧ ∃ c, (∀ h, (⟨s.toArray⟩ : ByteArray)[a]'h = c) ∧ Rx.lower (s.drop a) = some (c, s.drop (a + 1))) := by
  unfold Rx.lower
  rcases h with ⟨h1, h2, h3, h4⟩ | ⟨h1, h2, h4⟩
  · left; rw [h4]; exact ⟨h1, by omega, rfl⟩
  · right; rw [h4]; refine ⟨h1, h2, ?_⟩
    obtain ⟨c, hc, hi⟩ := drop_at ha
    rw [hc]
    exact ⟨c, hi, rfl⟩

/-- Whether a range stands here, of a place. -/
theorem isRange_at (s : Rx.Bytes) (a : Nat) : Rx.isRange (s.drop a) = (decide (a + 1 < s.length) && ((s.drop a).head? == some 45 && (s.drop a).tail.head? != some 93)) := by
  unfold Rx.isRange
  congr 1
  rw [List.length_drop]
  congr 1
  apply propext
  omega

set_option maxHeartbeats 6400000 in
set_option maxRecDepth 100000 in
theorem rpart_any (r b : Nat) (h : Rx.Has) (s : Rx.Bytes) (at_ : Nat) (ext fold bad : Bool) (w : World) (hr : RfAt w r s at_ ext fold bad) (hb : Blk w b (setCells h) 68) (ha : at_ < s.length) (hl : s.length < 1073741824) :
    Calls Tryz.prog 80 #[.pointer (some ⟨r, 0, none⟩), .pointer (some ⟨b, 0, none⟩)] w fun e w' => RPartPost w r b h s at_ ext fold bad e w' := by
  have hcl := rfclass_any r b h s at_ ext fold bad w hr hb (by omega) hl
  have HPART : Hid (Rx.part h (s.drop at_) = match Rx.cls h (s.drop at_) with
      | none => none
      | some (some x) => some x
      | some none => match Rx.named 61 (s.drop at_) with
        | some (c, r) => some (fun d => h d || d == c, r)
        | none => match Rx.lower (s.drop at_) with
          | none => none
          | some (c, r) => match Rx.rangeOf c r with
            | none => none
            | some (d, r2) => some (fun e => h e || Rx.within e c d, r2)) := by show _ = _; rfl
  clear hr hb
  go_enter Tryz.func80, Tryz.ntmps80
  go_wp2_with fail
  refine hcl.mono ?_
  rintro e w1 ⟨is, a2, b2, h2, rfl, HC⟩
  have HCH := Lib.hid HC
  clear HC hcl
  cases is with
  | true =>
    go_wp2_with fail
    refine bodyPost_ret (results_none rfl _ _ _) rfl ?_
    obtain ⟨y1, y2, y3, y4⟩ := HCH.out.yes rfl
    exact ⟨a2, b2, h2, rfl, HCH.out.st, y1, y2, y3, fun hb2 => by rw [HPART.out, y4 hb2]⟩
  | false =>
    obtain ⟨rfl, rfl, rfl, HN⟩ := HCH.out.no rfl
    have I1 := HCH.out.st
    have HN2 := Lib.hid HN
    clear HN HCH
    have hn := I1.end_ 61 (by omega) hl
    go_wp2_with fail
    refine hn.mono ?_
    rintro e w2 ⟨c0, is0, a3, rfl, I2, ha3, HA⟩
    clear hn I1
    rcases HA.out with ⟨rfl, ea, -, h61⟩ | ⟨rfl, rfl, h61⟩
    · have HX : Hid (Rx.part h2 (s.drop a2) = some (fun d => h2 d || d == c0, s.drop a3)) := by show _ = _; rw [HPART.out, HN2.out, h61]
      have f0 := I2.nd.free (1 + c0.toNat)
      have hcl := c0.toNat_lt
      have x0 := I2.nd.cell (1 + c0.toNat) (nd_has _ _ _ _ _ c0.toNat hcl)
      have HEA := Lib.hid ea
      clear h61 HA ea
      go_wp2_with fail
      refine bodyPost_ret (results_none rfl _ _ _) rfl ?_
      have I3 := I2.set c0.toNat hcl true
      rw [set_eq] at I3
      exact ⟨a3, b2, _, rfl, I3, by rw [HEA.out]; omega, ha3, id, fun _ => HX.out⟩
    · have HX : Hid (Rx.part h2 (s.drop a3) = match Rx.lower (s.drop a3) with
          | none => none
          | some (c, r) => match Rx.rangeOf c r with
            | none => none
            | some (d, r2) => some (fun e => h2 e || Rx.within e c d, r2)) := by show _ = _; rw [HPART.out, HN2.out, h61]
      clear h61 HA HN2 HPART
      have hn := I2.end_ 46 (by omega) hl
      go_wp2_with fail
      refine hn.mono ?_
      rintro e w3 ⟨cq, is1, a4, rfl, I3, ha4, HA⟩
      clear hn I2
      have c0 := I3.rd.c0
      have c1 := I3.rd.c1
      have f1 := I3.rd.free 1
      go_upto_if 33 with fail
      go_cut [5, 7, 27, 29, 30, 31, 32, 33, 34, 35, 36, 37, 38, 39, 40, 41, 42, 43, 44, 45, 46, 47, 48, 49] (fun s5 _s7 _s27 _s29 _s30 _s31 _s32 _s33 _s34 _s35 _s36 _s37 _s38 _s39 _s40 _s41 _s42 _s43 _s44 _s45 _s46 _s47 _s48 _s49 wx => ∃ c a5, Hid (Rx.lower (s.drop a3) = some (c, s.drop a5)) ∧ a3 < a5 ∧ a5 ≤ s.length ∧ s5 = .int .u8 c.toNat ∧ RSet w wx r b h2 s a5 ext fold b2)
      case first =>
        rcases rlower HA.out ha with ⟨rfl, hlt, hl⟩ | ⟨rfl, rfl, c, hi, hl⟩
        · have HL := Lib.hid hl
          clear hl HA
          go_wp2_with fail
          go_meet
          exact ⟨cq, a4, HL, hlt, ha4, rfl, I3⟩
        · have HL := Lib.hid hl
          clear hl HA
          have hai : (a4 : Int) < (s.length : Int) := by omega
          go_wp2_with fail
          go_region
          go_wp2_with fail
          go_meet
          exact ⟨c, a4 + 1, HL, by omega, by omega, rfl, I3.drew.setAt (a4 + 1)⟩
      case rest =>
        obtain ⟨c, a5, HL, h35, ha5, rfl, I4⟩ := hcut
        clear HA I3 c0 c1 f1
        have HX2 : Hid (Rx.part h2 (s.drop a3) = match Rx.rangeOf c (s.drop a5) with
          | none => none
          | some (d, r2) => some (fun e => h2 e || Rx.within e c d, r2)) := by show _ = _; rw [HX.out, HL.out]
        clear HX HL
        have c0 := I4.rd.c0
        have c1 := I4.rd.c1
        have HI := Lib.hid I4
        clear I4
        go_upto_region 9 with fail
        go_cut [50, 51, 52, 53, 54, 55, 56, 57, 58, 59, 60, 61, 62, 63, 64, 65, 66, 67, 68, 69, 70, 71, 72, 73, 74, 75, 76, 77, 78, 79, 80, 81, 82, 83, 84, 85] (fun _s50 _s51 _s52 _s53 _s54 _s55 _s56 _s57 _s58 _s59 _s60 _s61 _s62 _s63 _s64 _s65 _s66 _s67 _s68 _s69 _s70 _s71 _s72 _s73 _s74 _s75 _s76 _s77 _s78 _s79 _s80 _s81 _s82 _s83 _s84 s85 wx => s85 = .bool (Rx.isRange (s.drop a5)) ∧ wx = wc.drew)
        case first =>
          by_cases hlt : a5 + 1 < s.length
          · obtain ⟨x, hx, i0⟩ := drop_at (show a5 < s.length by omega)
            obtain ⟨y, hy, i1⟩ := drop_at hlt
            have HR2 : Hid (Rx.isRange (s.drop a5) = ((x == 45) && (y != 93))) := by
              show _ = _
              rw [isRange_at, hx, hy, show decide (a5 + 1 < s.length) = true by simpa using hlt]
              rfl
            clear hx hy
            have hlti : (a5 : Int) + 1 < (s.length : Int) := by omega
            by_cases hx45 : x = 45
            · subst hx45
              go_wp2_with fail
              go_region
              go_wp2_with fail
              go_meet
              refine ⟨congrArg Value.bool ?_, rfl⟩
              rw [HR2.out]
              show ((y.toNat : Int) != 93) = (y != 93)
              unfold bne
              rw [u8_beq]; rfl
            · have hx3 : ((x.toNat : Int) == 45) = false := u8_beqF hx45
              have hx4 : ((x.toNat : Int) = 45) = False := eq_false (u8_ne hx45)
              have HX1 := Lib.hid hx45
              clear hx45
              go_wp2_with fail
              go_region
              go_wp2_with fail
              go_meet
              exact ⟨by rw [HR2.out]; simp [HX1.out], rfl⟩
          · have HR2 : Hid (Rx.isRange (s.drop a5) = false) := by
              show _ = _
              rw [isRange_at, show decide (a5 + 1 < s.length) = false by simpa using hlt]
              rfl
            have hf2 : ((a5 : Int) + 1 < (s.length : Int)) = False := by simp; omega
            have hf3 : decide ((a5 : Int) + 1 < (s.length : Int)) = false := by simp; omega
            go_wp2_with fail
            go_region
            go_wp2_with fail
            go_meet
            exact ⟨by rw [HR2.out], rfl⟩
        case rest =>
          obtain ⟨rfl, rfl⟩ := hcut
          clear c0 c1
          cases hir : Rx.isRange (s.drop a5) with
          | false =>
            have HR2 : Hid (Rx.rangeOf c (s.drop a5) = some (c, s.drop a5)) := by show _ = _; unfold Rx.rangeOf; rw [hir]; rfl
            have I5 := HI.out.drew
            have f0 := I5.nd.free (1 + c.toNat)
            have hcl := c.toNat_lt
            have x0 := I5.nd.cell (1 + c.toNat) (nd_has _ _ _ _ _ c.toNat hcl)
            clear hir
            go_wp2_with fail
            go_end0
            have I6 := I5.set c.toNat hcl true
            rw [set_eq] at I6
            refine ⟨a5, b2, _, rfl, I6, h35, ha5, id, fun _ => ?_⟩
            rw [HX2.out, HR2.out]
            simp only [within_self]
          | true =>
            have I5 := HI.out.drew
            clear HI
            have hlt : a5 + 1 < s.length := by
              rw [isRange_at] at hir
              simp at hir
              exact hir.1
            have HR2 : Hid (Rx.rangeOf c (s.drop a5) = match Rx.upper (s.drop (a5 + 1)) with
                | none => none
                | some (d, r2) => if d < c then none else some (d, r2)) := by
              show _ = _
              unfold Rx.rangeOf
              rw [hir, if_pos rfl, List.tail_drop]
              rfl
            clear hir
            have c1 := I5.rd.c1
            have f1 := I5.rd.free 1
            have I6 := I5.setAt (a5 + 1)
            have hn := I6.end_ 46 (by omega) hl
            clear I5
            go_wp2_with fail
            refine hn.mono ?_
            rintro e w5 ⟨d1, is1, a7, rfl, I7, ha7, HA⟩
            clear hn I6 c1 f1
            go_upto_if 99 with fail
            go_cut [8, 9, 93, 95, 96, 97, 98, 99, 100, 101, 102, 103, 104] (fun s8 s9 _s93 _s95 _s96 _s97 _s98 _s99 _s100 _s101 _s102 _s103 _s104 wx => ∃ d is a8, s8 = .int .u8 d.toNat ∧ s9 = .bool is ∧ a8 ≤ s.length ∧ RSet w wx r b h2 s a8 ext fold b2 ∧ Hid ((is = true ∧ a5 + 1 < a8 ∧ Rx.upper (s.drop (a5 + 1)) = some (d, s.drop a8)) ∨ (is = false ∧ a8 = a5 + 1 ∧ ∀ c u, s.drop (a5 + 1) = c :: u → Rx.upper (s.drop (a5 + 1)) = some (c, u))))
            case first =>
              rcases HA.out with ⟨rfl, e7, -, h46⟩ | ⟨rfl, rfl, h46⟩
              · have HU : Hid (Rx.upper (s.drop (a5 + 1)) = some (d1, s.drop a7)) := by show _ = _; unfold Rx.upper; rw [h46]
                have H7 := Lib.hid e7
                clear h46 HA e7
                go_wp2_with fail
                go_meet
                exact ⟨d1, true, a7, rfl, rfl, ha7, I7, .inl ⟨rfl, by have := H7.out; omega, HU.out⟩⟩
              · have hn := I7.end_ 61 (by omega) hl
                have H46 := Lib.hid h46
                clear h46 HA
                go_wp2_with fail
                refine hn.mono ?_
                rintro e w6 ⟨d2, is2, a8, rfl, I8, ha8, HA⟩
                clear hn I7
                go_wp2_with fail
                go_meet
                refine ⟨d2, is2, a8, rfl, rfl, ha8, I8, ?_⟩
                rcases HA.out with ⟨rfl, e8, -, h61⟩ | ⟨rfl, rfl, h61⟩
                · exact .inl ⟨rfl, by omega, by unfold Rx.upper; rw [H46.out, h61]⟩
                · refine .inr ⟨rfl, rfl, fun c u hd => ?_⟩
                  unfold Rx.upper
                  rw [H46.out, h61, hd]
            case rest =>
              obtain ⟨d, is, a8, rfl, rfl, ha8, I8, HU⟩ := hcut
              clear HA I7
              have c0 := I8.rd.c0
              have c1 := I8.rd.c1
              have f1 := I8.rd.free 1
              go_upto_if 106 with fail
              go_cut [8, 9, 93, 95, 96, 97, 98, 99, 100, 101, 102, 103, 104, 105, 106, 107, 108, 109, 110, 111, 112, 113, 114, 115, 116, 117, 118, 119, 120, 121, 122] (fun s8 _s9 _s93 _s95 _s96 _s97 _s98 _s99 _s100 _s101 _s102 _s103 _s104 _s105 _s106 _s107 _s108 _s109 _s110 _s111 _s112 _s113 _s114 _s115 _s116 _s117 _s118 _s119 _s120 _s121 _s122 wx => ∃ d a9, s8 = .int .u8 d.toNat ∧ a5 + 1 < a9 ∧ a9 ≤ s.length ∧ RSet w wx r b h2 s a9 ext fold b2 ∧ Hid (Rx.upper (s.drop (a5 + 1)) = some (d, s.drop a9)))
              case first =>
                rcases HU.out with ⟨rfl, h58, hu⟩ | ⟨rfl, rfl, hu⟩
                · have HU2 := Lib.hid hu
                  clear hu HU
                  go_wp2_with fail
                  go_meet
                  exact ⟨d, a8, rfl, h58, ha8, I8, HU2⟩
                · obtain ⟨x, hx, i0⟩ := drop_at hlt
                  have HU2 := Lib.hid (hu x _ hx)
                  clear hu HU hx
                  have hai : (a5 : Int) + 1 < (s.length : Int) := by omega
                  go_wp2_with fail
                  go_region
                  go_wp2_with fail
                  go_meet
                  exact ⟨x, a5 + 1 + 1, rfl, by omega, by omega, I8.drew.setAt (a5 + 1 + 1), HU2⟩
              case rest =>
                obtain ⟨d, a9, rfl, h59, ha9, I9, HU2⟩ := hcut
                clear HU I8 c0 c1 f1
                have c4 := I9.rd.c4
                have f4 := I9.rd.free 4
                go_upto_if 125 with fail
                go_cut [123, 124, 125, 126, 127, 128] (fun _s123 _s124 _s125 _s126 _s127 _s128 wx => RSet w wx r b h2 s a9 ext fold (b2 || decide (d < c)))
                case first =>
                  by_cases hdc : d < c
                  · have hdc2 := hdc
                    rw [u8_lt] at hdc2
                    have I10 := I9.setBad true
                    have HD : Hid (decide (d < c) = true) := by show _ = _; simpa using hdc
                    clear hdc
                    go_wp2_with fail
                    go_meet
                    rw [HD.out, Bool.or_true]
                    exact I10
                  · have hdc2 := hdc
                    rw [u8_lt] at hdc2
                    have HD : Hid (decide (d < c) = false) := by show _ = _; simpa using hdc
                    clear hdc
                    go_wp2_with fail
                    go_meet
                    rw [HD.out, Bool.or_false]
                    exact I9
                case rest =>
                  clear I9 c4 f4
                  have hd256 := d.toNat_lt
                  have hc256 := c.toNat_lt
                  have I10 := hcut
                  clear hcut
                  go_wp2_with fail
                  go_loopw [10] (fun x10 wr => ∃ k : Nat, c.toNat ≤ k ∧ (k = c.toNat ∨ k ≤ d.toNat + 1) ∧ x10 = .int .i64 k ∧ RSet w wr r b (fun e => h2 e || (decide (c.toNat ≤ e.toNat) && decide (e.toNat < k))) s a9 ext fold (b2 || decide (d < c))) (fun x10 _ => d.toNat + 1 - (intOf x10).toNat)
                  case atStart =>
                    refine ⟨c.toNat, Nat.le_refl _, .inl rfl, by go_num, ?_⟩
                    have e : (fun e : UInt8 => h2 e || (decide (c.toNat ≤ e.toNat) && decide (e.toNat < c.toNat))) = h2 := by
                      funext e
                      by_cases h1 : c.toNat ≤ e.toNat
                      · rw [show decide (e.toNat < c.toNat) = false by simp; omega]; simp
                      · rw [show decide (c.toNat ≤ e.toNat) = false by simp; omega]; simp
                    rw [e]; exact I10
                  case round =>
                    clear I10
                    obtain ⟨k, hck, hkd, rfl, I11⟩ := hrel
                    by_cases hlt : k ≤ d.toNat
                    · have hk256 : k < 256 := by omega
                      have x0 := I11.nd.cell (1 + k) (nd_has _ _ _ _ _ k hk256)
                      have f0 := I11.nd.free (1 + k)
                      go_wp2_with fail
                      refine ⟨⟨k + 1, by omega, by omega, by go_num, ?_⟩, ?_⟩
                      · have I12 := I11.set k hk256 true
                        rw [setTo_step h2 c.toNat k hck] at I12
                        exact I12
                      · show d.toNat + 1 - ((k : Int) + 1).toNat < d.toNat + 1 - (k : Int).toNat
                        omega
                    · go_wp2_with fail
                      refine bodyPost_ret (results_none rfl _ _ _) rfl ?_
                      refine ⟨a9, b2 || decide (d < c), _, rfl, I11, by omega, ha9, fun h => by rw [h]; rfl, fun hb2 => ?_⟩
                      have hb3 := (Bool.or_eq_false_iff.1 hb2).2
                      have hdc : ¬ d < c := of_decide_eq_false hb3
                      rw [HX2.out, HR2.out, HU2.out]
                      simp only [if_neg hdc, Option.some.injEq, Prod.mk.injEq, and_true]
                      have hcd := UInt8.le_iff_toNat_le.1 (UInt8.not_lt.1 hdc)
                      funext e
                      unfold Rx.within
                      congr 1
                      rw [Bool.eq_iff_iff]
                      simp only [Bool.and_eq_true, decide_eq_true_eq, UInt8.le_iff_toNat_le]
                      omega

end Go.Proofs.YthdkbbkkijdhfaaGreatDoor
