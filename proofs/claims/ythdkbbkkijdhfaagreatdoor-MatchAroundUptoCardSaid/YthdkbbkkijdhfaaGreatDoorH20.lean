/-
  Texts of this seat put together: R8, R9.
-/
import Derived.Test.YthdkbbkkijdhfaaGreatDoorH19

/-
  The walk of the reference's bracket. Condition: the reader lies in memory, without fold.
-/
namespace Go.Proofs.YthdkbbkkijdhfaaGreatDoor
open Go.RowKit Go.Shelf Go.Maps

/-- What takes hands back, in one sentence. -/
def TakeAns (t s : Rx.Bytes) (at_ : Nat) (is : Bool) (a2 : Nat) : Prop := (is = true ∧ a2 = at_ + t.length ∧ Rx.take t (s.drop at_) = some (s.drop a2)) ∨ (is = false ∧ a2 = at_ ∧ Rx.take t (s.drop at_) = none)

theorem rtakes_ans (r : Nat) (s t : Rx.Bytes) (at_ : Nat) (ext fold bad : Bool) (w : World) (h : RfAt w r s at_ ext fold bad) (ha : at_ ≤ s.length) (hl : s.length < 1073741824) (ht : t.length < 1073741824) :
    Calls Tryz.prog 44 #[.pointer (some ⟨r, 0, none⟩), .string ⟨t.toArray⟩] w fun e w' => ∃ is a2, e = .returned (.bool is) ∧ RfAt w' r s a2 ext fold bad ∧ Kept (· = r) w w' ∧ at_ ≤ a2 ∧ a2 ≤ s.length ∧ Hid (TakeAns t s at_ is a2) := by
  refine (takes_any r s t at_ ext fold bad w h ha hl ht).mono ?_
  rintro e w' ⟨⟨he, hr⟩, hk⟩
  have hb := behind_le s t at_ ha
  refine ⟨_, _, he, hr, hk, hb.1, hb.2, ?_⟩
  show TakeAns _ _ _ _ _
  unfold TakeAns behind Rx.take
  cases hp : t.isPrefixOf (s.drop at_) with
  | true => left; simp [List.drop_drop]
  | false => right; simp

theorem RSet.takes {w wx : World} {r b : Nat} {h : Rx.Has} {s : Rx.Bytes} {at_ : Nat} {ext fold bad : Bool} (I : RSet w wx r b h s at_ ext fold bad) (t : Rx.Bytes) (ha : at_ ≤ s.length) (hl : s.length < 1073741824) (ht : t.length < 1073741824) :
    Calls Tryz.prog 44 #[.pointer (some ⟨r, 0, none⟩), .string ⟨t.toArray⟩] wx fun e w' => ∃ is a2, e = .returned (.bool is) ∧ RSet w w' r b h s a2 ext fold bad ∧ at_ ≤ a2 ∧ a2 ≤ s.length ∧ Hid (TakeAns t s at_ is a2) := by
  refine (rtakes_ans r s t at_ ext fold bad wx I.rd ha hl ht).mono ?_
  rintro e w' ⟨is, a2, he, hr, hk, h1, h2, h3⟩
  exact ⟨is, a2, he, I.go hr hk, h1, h2, h3⟩

theorem folds_false (h : Rx.Has) : Rx.folds false h = h := by
  funext c
  simp [Rx.folds]

/-- Where the reader stands. -/
def atOf (w : World) (r : Nat) : Nat := match w.cell? ⟨r, 1, none⟩ with
  | some (.int _ a) => a.toNat
  | _ => 0
theorem atOf_rf {w : World} {r at_ : Nat} {s : Rx.Bytes} {ext fold bad : Bool} (h : RfAt w r s at_ ext fold bad) : atOf w r = at_ := by
  unfold atOf
  rw [h.c1]
  rfl

theorem head_at {s : Rx.Bytes} {a : Nat} (k : UInt8) {c : UInt8} (hd : s.drop a = c :: s.drop (a + 1)) : ((s.drop a).head? == some k) = (c == k) := by
  rw [hd]
  rfl

set_option maxHeartbeats 6400000 in
set_option maxRecDepth 100000 in
theorem rbracket_any (r : Nat) (s : Rx.Bytes) (at_ : Nat) (ext bad : Bool) (w : World) (hr : RfAt w r s at_ ext false bad) (ha : at_ ≤ s.length) (hl : s.length < 1073741824) :
    Calls Tryz.prog 61 #[.pointer (some ⟨r, 0, none⟩)] w fun e w' => ∃ a2 b2 hh, e = .returned (.pointer (some ⟨w.heap.size, 0, none⟩)) ∧ RSet w w' r w.heap.size hh s a2 ext false b2 ∧ at_ ≤ a2 ∧ a2 ≤ s.length ∧ (bad = true → b2 = true) ∧ (b2 = false → Rx.bracket false (s.drop at_) = some (.set hh, s.drop a2)) := by
  have hrlt := Blk.lt hr
  have HR := Lib.hid hr
  clear hr
  go_enter Tryz.func61, Tryz.ntmps61
  go_upto_region 2 with fail
  rw [rnd_new]
  have hb := Blk.new w (setCells noHas) 68
  have hk1 : Kept (fun k => k = r ∨ k = w.heap.size) w (w.alloc (.cells (setCells noHas) 68)) := (Kept.refl _ _).alloc _
  have hr1 : RfAt (w.alloc (.cells (setCells noHas) 68)) r s at_ ext false bad := Blk.alloc HR.out _
  show Code.wp _ _ _ _ (w.alloc (.cells (setCells noHas) 68))
  generalize w.alloc (.cells (setCells noHas) 68) = w1 at *
  have I : RSet w w1 r w.heap.size noHas s at_ ext false bad := ⟨hr1, hb, hk1⟩
  generalize hbs : w.heap.size = b at *
  clear hb hk1 hr1 HR
  have ht := I.takes [94] ha hl (by decide)
  go_wp2_with fail
  refine ht.mono ?_
  rintro e w2 ⟨not, a1, rfl, I2, hal, ha1, HT⟩
  clear I ht
  have HB : Hid (Rx.bracket false (s.drop at_) = match Rx.parts ((s.drop a1).length + 1) true noHas (s.drop a1) with
    | none => none
    | some (h, s2) => match Rx.take [93] s2 with
      | none => none
      | some s3 => some (.set fun c => Rx.folds false h c != not, s3)) := by
    show _ = _
    rcases HT.out with ⟨rfl, rfl, ht⟩ | ⟨rfl, rfl, ht⟩
    · unfold Rx.take at ht
      split at ht
      · rename_i hp
        rw [prefix_one] at hp
        unfold Rx.bracket
        rw [hp]
        simp only [if_true, List.tail_drop]
        rfl
      · cases ht
    · unfold Rx.take at ht
      split at ht
      · cases ht
      · rename_i hp
        rw [prefix_one] at hp
        have hp2 : ((s.drop a1).head? == some 94) = false := by simpa using hp
        unfold Rx.bracket
        rw [hp2]
        rfl
  clear HT
  obtain ⟨PARTS, hP⟩ : ∃ P, Rx.parts ((s.drop a1).length + 1) true noHas (s.drop a1) = P := ⟨_, rfl⟩
  rw [hP] at HB
  have HP0 := Lib.hid hP
  clear hP
  go_wp2_with fail
  go_loopw [5] (fun x5 wr => ∃ first h a b2, x5 = .bool first ∧ RSet w wr r b h s a ext false b2 ∧ a1 ≤ a ∧ a ≤ s.length ∧ (bad = true → b2 = true) ∧ Hid (b2 = false → ∃ f, (s.drop a).length < f ∧ Rx.parts f first h (s.drop a) = PARTS)) (fun _ wr => s.length - atOf wr r)
  case atStart => exact ⟨true, noHas, a1, bad, rfl, I2, Nat.le_refl _, ha1, id, fun _ => ⟨(s.drop a1).length + 1, by omega, HP0.out⟩⟩
  case round =>
    clear I2 HP0
    obtain ⟨first, h, a, b2, rfl, I3, ha3, hal3, hb3, HF⟩ := hrel
    have c0 := I3.rd.c0
    have c1 := I3.rd.c1
    have HI := Lib.hid I3
    clear I3
    go_upto_region 4 with fail
    go_cut [12, 13, 14, 15, 16, 17, 18, 19, 20, 21, 22, 23, 24, 25, 26, 27, 28, 29, 30, 31, 32, 33, 34, 35, 36] (fun _s12 _s13 _s14 _s15 _s16 _s17 _s18 _s19 _s20 _s21 _s22 _s23 _s24 _s25 _s26 _s27 _s28 _s29 _s30 _s31 _s32 _s33 _s34 _s35 s36 wx => s36 = .bool (decide (a < s.length) && (first || !((s.drop a).head? == some 93))) ∧ wx = wr.drew)
    case first =>
      by_cases hlt : a < s.length
      · obtain ⟨x, hx, i0⟩ := drop_at hlt
        have HO : Hid ((decide (a < s.length) && (first || !((s.drop a).head? == some 93))) = (first || !(x == 93))) := by
          show _ = _
          rw [head_at 93 hx, decide_eq_true hlt]
          rfl
        have hlti : (a : Int) < (s.length : Int) := by omega
        clear hx
        cases first with
        | true =>
          go_wp2_with fail
          go_region
          go_wp2_with fail
          go_meet
          exact ⟨by rw [HO.out]; rfl, rfl⟩
        | false =>
          go_wp2_with fail
          go_region
          go_wp2_with fail
          go_meet
          refine ⟨congrArg Value.bool ?_, rfl⟩
          rw [HO.out, u8_beq]
          rfl
      · have HO : Hid ((decide (a < s.length) && (first || !((s.drop a).head? == some 93))) = false) := by
          show _ = _
          rw [decide_eq_false hlt]
          rfl
        have hf2 : ((a : Int) < (s.length : Int)) = False := by simp; omega
        have hf3 : decide ((a : Int) < (s.length : Int)) = false := by simp; omega
        go_wp2_with fail
        go_region
        go_wp2_with fail
        go_meet
        exact ⟨by rw [HO.out], rfl⟩
    case rest =>
      obtain ⟨rfl, rfl⟩ := hcut
      have I4 := HI.out.drew
      clear HI c0 c1
      cases hon : decide (a < s.length) && (first || !((s.drop a).head? == some 93)) with
      | true =>
        have hlt : a < s.length := by simp at hon; exact hon.1
        have hpt := rpart_any r b h s a ext false b2 _ I4.rd I4.nd hlt hl
        have HF2 : Hid (b2 = false → ∃ f, (s.drop a).length ≤ f ∧ (match Rx.part h (s.drop a) with
            | none => none
            | some (h2, s2) => Rx.parts f false h2 s2) = PARTS) := by
          intro hb2
          obtain ⟨f, hf, hp⟩ := HF.out hb2
          cases f with
          | zero => omega
          | succ f =>
            refine ⟨f, by omega, ?_⟩
            rw [← hp]
            have e1 : (!first && (s.drop a).head? == some 93) = false := by
              have := (Bool.and_eq_true_iff.1 hon).2
              cases first
              · simpa using this
              · rfl
            have e2 : ¬ s.drop a = [] := by simp; omega
            rw [Rx.parts]
            rw [e1, if_neg (by decide), if_neg e2]
            rfl
        have hm := atOf_rf I4.rd
        have HI4 := Lib.hid I4
        clear HF hon I4
        go_wp2_with fail
        refine hpt.mono ?_
        rintro e w4 ⟨a4, b4, h4, rfl, I5, hlt4, hal4, hb4, hp4⟩
        have HP4 := Lib.hid hp4
        have hm5 := atOf_rf I5.rd
        have I6 : RSet w w4 r b h4 s a4 ext false b4 := ⟨I5.rd, I5.nd, HI4.out.kept.trans I5.kept⟩
        clear hp4 I5 hpt
        go_wp2_with fail
        refine ⟨⟨false, h4, a4, b4, rfl, I6, by omega, hal4, fun h => hb4 (hb3 h), fun hbf => ?_⟩, ?_⟩
        · have hb2 : b2 = false := by
            cases b2
            · rfl
            · rw [hb4 rfl] at hbf; cases hbf
          obtain ⟨f, hf, h2⟩ := HF2.out hb2
          rw [HP4.out hbf] at h2
          exact ⟨f, by simp at hf ⊢; omega, h2⟩
        · show s.length - atOf w4 r < s.length - atOf wr r
          rw [hm5]
          have : atOf wr r = a := hm
          omega
      | false =>
        have ht := I4.takes [93] hal3 hl (by decide)
        have HOFF : Hid (first = false → ∀ u, Rx.take [93] (s.drop a) = some u → b2 = false → PARTS = some (h, s.drop a)) := by
          rintro rfl u hu hb2
          obtain ⟨f, hf, hp⟩ := HF.out hb2
          rw [← hp]
          cases f with
          | zero => omega
          | succ f =>
            have e1 : (s.drop a).head? == some 93 := by
              unfold Rx.take at hu
              split at hu
              · rename_i hp
                rw [prefix_one] at hp
                exact hp
              · cases hu
            rw [Rx.parts]
            rw [if_pos (by simpa using e1)]
        clear hon HF
        go_wp2_with fail
        refine ht.mono ?_
        rintro e w4 ⟨closed, a4, rfl, I5, hl4, ha4, HT⟩
        clear ht I4
        go_upto_region 8 with fail
        go_cut [5, 6, 41, 42, 43, 44, 45, 46] (fun _s5 _s6 _s41 _s42 _s43 _s44 _s45 s46 wx => s46 = .bool (!closed || first) ∧ wx = w4)
        case first =>
          cases closed <;> cases first
          all_goals go_wp2_with fail
          all_goals go_meet
          all_goals exact ⟨rfl, rfl⟩
        case rest =>
        obtain ⟨rfl, rfl⟩ := hcut
        have c4 := I5.rd.c4
        have f4 := I5.rd.free 4
        go_upto_if 46 with fail
        go_cut [46, 47, 48, 49] (fun _s46 _s47 _s48 _s49 wx => ∃ b5, RSet w wx r b h s a4 ext false b5 ∧ (b2 = true → b5 = true) ∧ Hid (b5 = false → b2 = false ∧ closed = true ∧ first = false))
        case first =>
          have HI5 := Lib.hid I5
          have HI6 := Lib.hid (I5.setBad true)
          clear I5 HT HOFF
          cases hcf : !closed || first with
          | true =>
            clear hcf
            go_wp2_with fail
            go_meet
            exact ⟨true, HI6.out, fun _ => rfl, fun h => by cases h⟩
          | false =>
            have HCF := Lib.hid hcf
            clear hcf
            go_wp2_with fail
            go_meet
            refine ⟨b2, HI5.out, id, fun h => ⟨h, ?_⟩⟩
            have := HCF.out
            revert this
            cases closed <;> cases first <;> simp
        case rest =>
          clear I5 c4 f4
          obtain ⟨b5, I6, hb5, HB5⟩ := hcut
          have HX : Hid (b5 = false → Rx.bracket false (s.drop at_) = some (.set fun c => h c != not, s.drop a4)) := by
            intro h5
            obtain ⟨x1, x2, x3⟩ := HB5.out h5
            rcases HT.out with ⟨-, -, ht⟩ | ⟨y1, -, -⟩
            · rw [HB.out, HOFF.out x3 _ ht x1]
              simp only [ht, folds_false]
            · rw [x2] at y1; cases y1
          clear HT HOFF HB5 HB
          have hf := rfolds_any r b s a4 ext b5 _ I6.rd
          go_wp2_with fail
          refine hf.mono ?_
          rintro e w5 ⟨rfl, rfl⟩
          clear hf
          go_wp2_with fail
          go_loopw [7] (fun x7 wr => ∃ j : Nat, j ≤ 256 ∧ x7 = .int .i64 j ∧ RSet w wr r b (fun c => if c.toNat < j then h c != not else h c) s a4 ext false b5) (fun x7 _ => 256 - (intOf x7).toNat)
          case atStart => exact ⟨0, Nat.zero_le _, rfl, by simpa using I6⟩
          case round =>
            clear I6
            obtain ⟨j, hj, rfl, I6⟩ := hrel
            by_cases hlt : j < 256
            · have c0 := I6.nd.cell (1 + j) (nd_has _ _ _ _ _ j hlt)
              have f0 := I6.nd.free (1 + j)
              have ej : (UInt8.ofNat j).toNat = j := by simp [UInt8.toNat_ofNat']; omega
              rw [ej, if_neg (Nat.lt_irrefl j)] at c0
              have HS := Lib.hid (neq_step h not j hlt)
              generalize h (UInt8.ofNat j) = y at *
              go_wp2_with fail
              go_region
              all_goals go_wp2_with fail
              all_goals
                refine ⟨⟨j + 1, by omega, by go_num, ?_⟩, ?_⟩
                · have I7 := I6.set j hlt (y != not)
                  rw [HS.out] at I7
                  exact I7.drew
                · show 256 - ((j : Int) + 1).toNat < 256 - (j : Int).toNat
                  omega
            · obtain rfl : j = 256 := by omega
              go_wp2_with fail
              go_ret
              have e : (fun c : UInt8 => if c.toNat < 256 then h c != not else h c) = fun c => h c != not := by
                funext c
                rw [if_pos c.toNat_lt]
              rw [e] at I6
              rw [hbs]
              exact ⟨a4, b5, _, rfl, I6, by omega, ha4, fun h => hb5 (hb3 h), HX.out⟩

end Go.Proofs.YthdkbbkkijdhfaaGreatDoor

/-
  The walks of the document's Based and Number (of digits) and of the reference's number. Condition: the reader lies in memory.
-/
namespace Go.Proofs.YthdkbbkkijdhfaaGreatDoor
open Go.RowKit Go.Shelf Go.Maps

theorem value_append (a b : Rx.Bytes) : Rx.value (a ++ b) = b.foldl (fun n c => n * 10 + (c.toNat - 48)) (Rx.value a) := by
  unfold Rx.value
  rw [List.foldl_append]
theorem value_snoc (a : Rx.Bytes) (c : UInt8) : Rx.value (a ++ [c]) = Rx.value a * 10 + (c.toNat - 48) := by
  rw [value_append]
  rfl
theorem fold_le (b : Rx.Bytes) : ∀ n : Nat, n ≤ b.foldl (fun n c => n * 10 + (c.toNat - 48)) n := by
  induction b with
  | nil => intro n; exact Nat.le_refl _
  | cons c r ih => intro n; exact Nat.le_trans (by omega) (ih (n * 10 + (c.toNat - 48)))
theorem value_take (s : Rx.Bytes) (i : Nat) : Rx.value (s.take i) ≤ Rx.value s := by
  conv => rhs; rw [← List.take_append_drop i s, value_append]
  exact fold_le _ _

/-- Is it a number that may be? -/
def rok (d : Rx.Bytes) : Bool := !d.isEmpty && decide (Rx.value d ≤ 255)
def basedVal (d : Rx.Bytes) : Value := .tuple #[.int .i64 (if rok d = true then (Rx.value d : Int) else 0), .bool (rok d)]
theorem basedVal_ok {d : Rx.Bytes} (h : rok d = true) : basedVal d = .tuple #[.int .i64 (Rx.value d : Nat), .bool true] := by
  unfold basedVal
  rw [if_pos h, h]
theorem basedVal_bad {d : Rx.Bytes} (h : rok d = false) : basedVal d = .tuple #[.int .i64 0, .bool false] := by
  unfold basedVal
  rw [if_neg (by rw [h]; decide), h]

theorem digit_bounds {c : UInt8} (h : Rx.digit c = true) : 48 ≤ c.toNat ∧ c.toNat ≤ 57 := by
  unfold Rx.digit Rx.within at h
  simp only [Bool.and_eq_true, decide_eq_true_eq, UInt8.le_iff_toNat_le] at h
  exact h

set_option maxHeartbeats 6400000 in
set_option maxRecDepth 100000 in
theorem rbased_any (d : Rx.Bytes) (hd : d.all Rx.digit = true) (hl : d.length < 1073741824) (w : World) :
    Calls Tryz.prog 109 #[.string ⟨d.toArray⟩, .int .i64 255, .int .i64 10] w fun e w' => e = .returned (basedVal d) ∧ w' = w := by
  have HDG : Hid (∀ i (h : i < d.length), 48 ≤ d[i].toNat ∧ d[i].toNat ≤ 57) := fun i h => digit_bounds (List.all_eq_true.1 hd _ (List.getElem_mem h))
  have HOK : Hid (d ≠ [] → Rx.value d ≤ 255 → basedVal d = .tuple #[.int .i64 (Rx.value d : Nat), .bool true]) := fun h1 h2 => basedVal_ok (by
    unfold rok
    rw [decide_eq_true h2]
    cases d
    · simp at h1
    · rfl)
  have HBAD : Hid (d = [] ∨ 255 < Rx.value d → basedVal d = .tuple #[.int .i64 0, .bool false]) := fun h => basedVal_bad (by
    unfold rok
    rcases h with rfl | h
    · rfl
    · rw [decide_eq_false (by omega), Bool.and_false])
  obtain ⟨BV, hBV⟩ : ∃ v, basedVal d = v := ⟨_, rfl⟩
  rw [hBV] at HOK HBAD ⊢
  clear hBV hd
  go_enter Tryz.func109, Tryz.ntmps109
  by_cases h0 : d = []
  · have hz : (d.length : Int) = 0 := by rw [h0]; rfl
    have HB := HBAD.out (.inl h0)
    have HB2 := Lib.hid HB
    clear HB HOK HBAD HDG h0
    go_wp2_with fail
    go_ret2
    exact ⟨by rw [HB2.out]; rfl, rfl⟩
  · have hpos : 0 < d.length := List.length_pos_iff.2 h0
    have hne : ¬ ((d.length : Int) = 0) := by omega
    have HN := Lib.hid h0
    clear h0
    go_wp2_with fail
    go_loop [8, 9] (fun x8 x9 => ∃ i n : Nat, i ≤ d.length ∧ x9 = .int .i64 i ∧ x8 = .int .i64 n ∧ n ≤ 255 ∧ Hid (Rx.value (d.take i) = n)) (fun _ x9 => d.length - (intOf x9).toNat)
    case atStart => exact ⟨0, 0, Nat.zero_le _, rfl, rfl, by omega, rfl⟩
    case round =>
      obtain ⟨i, n, hi, rfl, rfl, hn, HV⟩ := hrel
      by_cases hlt : i < d.length
      · obtain ⟨b1, b2⟩ := HDG.out i hlt
        have HV2 : Hid (Rx.value (d.take (i + 1)) = n * 10 + (d[i].toNat - 48)) := by
          show _ = _
          rw [List.take_succ_eq_append_getElem hlt, value_snoc, HV.out]
        have HT := Lib.hid (value_take d (i + 1))
        obtain ⟨x, hx, i0⟩ : ∃ x, d[i] = x ∧ ∀ h, (⟨d.toArray⟩ : ByteArray)[i]'h = x := ⟨d[i], rfl, fun _ => rfl⟩
        rw [hx] at b1 b2 HV2
        clear hx
        have g1 : ¬ ((x.toNat : Int) < 48) := by omega
        have hwx : wrap64 (x.toNat : Int) = (x.toNat : Int) := by simp [wrap64]; omega
        have g2 : ¬ ((58 : Int) ≤ (x.toNat : Int)) := by omega
        have hw : ((x.toNat : Int) - 48) % 256 = (x.toNat : Int) - 48 := by omega
        by_cases hok : n * 10 + (x.toNat - 48) ≤ 255
        · have k1 : ¬ ((25 : Int) < (n : Int)) := by omega
          have k2 : ¬ ((255 : Int) - ((x.toNat : Int) - 48) < (n : Int) * 10) := by omega
          go_wp2_with fail
          refine ⟨⟨i + 1, n * 10 + (x.toNat - 48), by omega, by go_num, by go_num, hok, HV2.out⟩, ?_⟩
          show d.length - ((i : Int) + 1).toNat < d.length - (i : Int).toNat
          omega
        · have HB := HBAD.out (.inr (by have := HT.out; have := HV2.out; omega))
          have HB2 := Lib.hid HB
          clear HB HOK HBAD HV HV2 HT
          by_cases h25 : (25 : Int) < (n : Int)
          · have k0 := h25
            go_wp2_with fail
            go_loop [11] (fun x11 => ∃ k : Nat, k ≤ d.length ∧ x11 = .int .i64 k) (fun x11 => d.length - (intOf x11).toNat)
            case atStart => exact ⟨i, hi, rfl⟩
            case round =>
              obtain ⟨k, hk, rfl⟩ := hrel
              by_cases hlt2 : k < d.length
              · obtain ⟨b3, b4⟩ := HDG.out k hlt2
                obtain ⟨y, hy, i1⟩ : ∃ y, d[k] = y ∧ ∀ h, (⟨d.toArray⟩ : ByteArray)[k]'h = y := ⟨d[k], rfl, fun _ => rfl⟩
                rw [hy] at b3 b4
                clear hy
                have g3 : ¬ ((y.toNat : Int) < 48) := by omega
                have hwy : wrap64 (y.toNat : Int) = (y.toNat : Int) := by simp [wrap64]; omega
                have g4 : ¬ ((58 : Int) ≤ (y.toNat : Int)) := by omega
                go_wp2_with fail
                refine ⟨⟨k + 1, by omega, by go_num⟩, ?_⟩
                show d.length - ((k : Int) + 1).toNat < d.length - (k : Int).toNat
                omega
              · obtain rfl : k = d.length := by omega
                go_wp2_with fail
                go_ret2
                exact ⟨by rw [HB2.out]; rfl, rfl⟩
          · have k2 : (255 : Int) - ((x.toNat : Int) - 48) < (n : Int) * 10 := by omega
            go_wp2_with fail
            go_loop [11] (fun x11 => ∃ k : Nat, k ≤ d.length ∧ x11 = .int .i64 k) (fun x11 => d.length - (intOf x11).toNat)
            case atStart => exact ⟨i, hi, rfl⟩
            case round =>
              obtain ⟨k, hk, rfl⟩ := hrel
              by_cases hlt2 : k < d.length
              · obtain ⟨b3, b4⟩ := HDG.out k hlt2
                obtain ⟨y, hy, i1⟩ : ∃ y, d[k] = y ∧ ∀ h, (⟨d.toArray⟩ : ByteArray)[k]'h = y := ⟨d[k], rfl, fun _ => rfl⟩
                rw [hy] at b3 b4
                clear hy
                have g3 : ¬ ((y.toNat : Int) < 48) := by omega
                have hwy : wrap64 (y.toNat : Int) = (y.toNat : Int) := by simp [wrap64]; omega
                have g4 : ¬ ((58 : Int) ≤ (y.toNat : Int)) := by omega
                go_wp2_with fail
                refine ⟨⟨k + 1, by omega, by go_num⟩, ?_⟩
                show d.length - ((k : Int) + 1).toNat < d.length - (k : Int).toNat
                omega
              · obtain rfl : k = d.length := by omega
                go_wp2_with fail
                go_ret2
                exact ⟨by rw [HB2.out]; rfl, rfl⟩
      · obtain rfl : i = d.length := by omega
        rw [List.take_of_length_le (Nat.le_refl _)] at HV
        have HB := HOK.out HN.out (by rw [HV.out]; exact hn)
        rw [HV.out] at HB
        have HB2 := Lib.hid HB
        clear HB HOK HBAD HV
        have k1 : (n : Int) ≤ 255 := by omega
        go_wp2_with fail
        go_ret2
        exact ⟨by rw [HB2.out]; rfl, rfl⟩

set_option maxRecDepth 100000 in
theorem rnumv_any (d : Rx.Bytes) (hd : d.all Rx.digit = true) (hl : d.length < 1073741824) (w : World) :
    Calls Tryz.prog 97 #[.string ⟨d.toArray⟩, .int .i64 255] w fun e w' => e = .returned (basedVal d) ∧ w' = w := by
  have hb := rbased_any d hd hl w
  obtain ⟨v, ok, hv⟩ : ∃ v ok, basedVal d = .tuple #[.int .i64 v, .bool ok] := ⟨_, _, rfl⟩
  rw [hv] at hb ⊢
  clear hv
  go_enter Tryz.func97, Tryz.ntmps97
  go_wp2_with fail
  refine hb.mono ?_
  rintro e w' ⟨rfl, rfl⟩
  go_wp2_with fail
  go_ret2
  exact ⟨rfl, rfl⟩

/-- What number hands back, in one sentence. -/
def NumAns (s : Rx.Bytes) (a : Nat) (m : Int) (a2 : Nat) : Prop := (∃ n : Nat, m = n ∧ n ≤ 255 ∧ Rx.number (s.drop a) = some (n, s.drop a2)) ∨ (m = -1 ∧ Rx.number (s.drop a) = none)

theorem takeWhile_at {s : Rx.Bytes} {a k : Nat} (hak : a ≤ k) (hall : ((s.drop a).take (k - a)).all Rx.digit = true) (hstop : ∀ c u, s.drop k = c :: u → Rx.digit c = false) :
    (s.drop a).takeWhile Rx.digit = (s.drop a).take (k - a) ∧ (s.drop a).dropWhile Rx.digit = s.drop k := by
  have hd : s.drop k = (s.drop a).drop (k - a) := by rw [List.drop_drop]; congr 1; omega
  rw [hd] at hstop ⊢
  generalize s.drop a = u at *
  generalize k - a = n at *
  have h1 : (u.take n ++ u.drop n).takeWhile Rx.digit = u.take n ∧ (u.take n ++ u.drop n).dropWhile Rx.digit = u.drop n := by
    have hx : ∀ (x y : Rx.Bytes), x.all Rx.digit = true → (∀ c v, y = c :: v → Rx.digit c = false) → (x ++ y).takeWhile Rx.digit = x ∧ (x ++ y).dropWhile Rx.digit = y := by
      intro x
      induction x with
      | nil =>
        intro y _ hy
        cases y with
        | nil => exact ⟨rfl, rfl⟩
        | cons c v =>
          have := hy c v rfl
          simp [this]
      | cons c x ih =>
        intro y hx hy
        simp only [List.all_cons, Bool.and_eq_true] at hx
        have := ih y hx.2 hy
        simp [hx.1, this.1, this.2]
    exact hx _ _ hall hstop
  rwa [List.take_append_drop] at h1

theorem number_rok {u d v : Rx.Bytes} (h : u.takeWhile Rx.digit = d ∧ u.dropWhile Rx.digit = v) : Rx.number u = if rok d = true then some (Rx.value d, v) else none := by
  unfold Rx.number rok
  simp only [h.1, h.2]

set_option maxHeartbeats 6400000 in
set_option maxRecDepth 100000 in
theorem rfnumber_any (r : Nat) (s : Rx.Bytes) (a : Nat) (ext fold bad : Bool) (w : World) (hr : RfAt w r s a ext fold bad) (ha : a ≤ s.length) (hl : s.length < 1073741824) :
    Calls Tryz.prog 79 #[.pointer (some ⟨r, 0, none⟩)] w fun e w' => ∃ m a2, e = .returned (.int .i64 m) ∧ RfAt w' r s a2 ext fold bad ∧ Kept (· = r) w w' ∧ a ≤ a2 ∧ a2 ≤ s.length ∧ Hid (NumAns s a m a2) := by
  have c1 := hr.c1
  have HR := Lib.hid hr
  clear hr
  go_enter Tryz.func79, Tryz.ntmps79
  go_wp2_with fail
  go_loopw [] (fun wr => ∃ k : Nat, a ≤ k ∧ k ≤ s.length ∧ RfAt wr r s k ext fold bad ∧ Kept (· = r) w wr ∧ Hid (((s.drop a).take (k - a)).all Rx.digit = true)) (fun wr => s.length - atOf wr r)
  case atStart => exact ⟨a, Nat.le_refl _, ha, HR.out, Kept.refl _ _, by show _ = _; simp⟩
  case round =>
    clear c1
    obtain ⟨k, hak, hk, hr, hkept, HALL⟩ := hrel
    have c0 := hr.c0
    have c1 := hr.c1
    have f1 := hr.free 1
    have HRK := Lib.hid hr
    have HK := Lib.hid hkept
    clear hr hkept
    go_upto_region 2 with fail
    go_cut [10, 11, 12, 13, 14, 15, 16, 17, 18, 19, 20, 21, 22, 23, 24, 25, 26, 27, 28, 29, 30, 31, 32, 33, 34, 35, 36, 37, 38, 39, 40, 41, 42, 43] (fun _s10 _s11 _s12 _s13 _s14 _s15 _s16 _s17 _s18 _s19 _s20 _s21 _s22 _s23 _s24 _s25 _s26 _s27 _s28 _s29 _s30 _s31 _s32 _s33 _s34 _s35 _s36 _s37 _s38 _s39 _s40 _s41 _s42 s43 wx => ∃ on : Bool, s43 = .bool on ∧ wx = wr.drew ∧ (on = true → k < s.length) ∧ Hid (if on = true then ((s.drop a).take (k + 1 - a)).all Rx.digit = true else ∀ c u, s.drop k = c :: u → Rx.digit c = false))
    case first =>
      by_cases hlt : k < s.length
      · obtain ⟨x, hx, i0⟩ := drop_at hlt
        have hlti : (k : Int) < (s.length : Int) := by omega
        have HON : Hid (Rx.digit x = true → ((s.drop a).take (k + 1 - a)).all Rx.digit = true) := by
          intro hx2
          have e : (s.drop a).take (k + 1 - a) = (s.drop a).take (k - a) ++ [x] := by
            rw [show k + 1 - a = (k - a) + 1 by omega, List.take_add_one]
            congr 1
            rw [List.getElem?_drop, show a + (k - a) = k + 0 by omega, ← List.getElem?_drop, hx]
            rfl
          rw [e, List.all_append, HALL.out]
          simp [hx2]
        have HOFF : Hid (Rx.digit x = false → ∀ c u, s.drop k = c :: u → Rx.digit c = false) := by
          intro h c u hd
          rw [hx] at hd
          cases hd
          exact h
        have HD : Hid (Rx.digit x = (decide (48 ≤ x.toNat) && decide (x.toNat ≤ 57))) := by
          show _ = _
          unfold Rx.digit Rx.within
          rw [Bool.eq_iff_iff]
          simp only [Bool.and_eq_true, decide_eq_true_eq, UInt8.le_iff_toNat_le]
          exact Iff.rfl
        clear hx
        by_cases h1 : 48 ≤ x.toNat
        · by_cases h2 : x.toNat ≤ 57
          · have g1 : ((48 : Int) ≤ (x.toNat : Int)) = True := by simp; omega
            have g2 : ((x.toNat : Int) ≤ 57) = True := by simp; omega
            have g3 : decide ((48 : Int) ≤ (x.toNat : Int)) = true := by simp; omega
            have HX := HON.out (by rw [HD.out]; simp [h1, h2])
            have HX2 := Lib.hid HX
            clear HX HOFF HON h1 h2
            go_wp2_with fail
            go_region
            go_wp2_with fail
            go_meet
            exact ⟨true, rfl, rfl, fun _ => hlt, HX2.out⟩
          · have g1 : ((48 : Int) ≤ (x.toNat : Int)) = True := by simp; omega
            have g2 : ((x.toNat : Int) ≤ 57) = False := by simp; omega
            have g3 : decide ((48 : Int) ≤ (x.toNat : Int)) = true := by simp; omega
            have HX := HOFF.out (by rw [HD.out]; simp [h2])
            have HX2 := Lib.hid HX
            clear HX HOFF HON h1 h2
            go_wp2_with fail
            go_region
            go_wp2_with fail
            go_meet
            exact ⟨false, rfl, rfl, (fun h => by cases h), HX2.out⟩
        · have g1 : ((48 : Int) ≤ (x.toNat : Int)) = False := by simp; omega
          have g3 : decide ((48 : Int) ≤ (x.toNat : Int)) = false := by simp; omega
          have HX := HOFF.out (by rw [HD.out]; simp [h1])
          have HX2 := Lib.hid HX
          clear HX HOFF HON h1
          go_wp2_with fail
          go_region
          go_wp2_with fail
          go_meet
          exact ⟨false, rfl, rfl, (fun h => by cases h), HX2.out⟩
      · have hf2 : ((k : Int) < (s.length : Int)) = False := by simp; omega
        have hf3 : decide ((k : Int) < (s.length : Int)) = false := by simp; omega
        go_wp2_with fail
        go_region
        go_wp2_with fail
        go_meet
        exact ⟨false, rfl, rfl, (fun h => by cases h), fun c u hd => by rw [List.drop_eq_nil_of_le (by omega)] at hd; cases hd⟩
    case rest =>
      obtain ⟨on, rfl, hwx, hon, HON⟩ := hcut
      clear c0 c1 f1
      have hr2 : RfAt wc r s k ext fold bad := by rw [hwx]; exact Blk.drew HRK.out
      have hk2 : Kept (· = r) w wc := by rw [hwx]; exact HK.out.drew
      clear hwx
      cases on with
      | true =>
        have hlt := hon rfl
        have c1 := hr2.c1
        have f1 := hr2.free 1
        have hm := atOf_rf HRK.out
        have HR2 := Lib.hid hr2
        have HK2 := Lib.hid hk2
        clear hr2 hk2 hon
        go_wp2_with fail
        have hr3 := HR2.out.setAt (k + 1)
        refine ⟨⟨k + 1, by omega, by omega, hr3, HK2.out.setCell (.inl rfl) 1 _, by have := HON.out; rwa [if_pos rfl] at this⟩, ?_⟩
        have hm2 := atOf_rf hr3
        rw [hm]
        show s.length - atOf (wc.setCell ⟨r, 1, none⟩ (.int .i64 ((k + 1 : Nat) : Int))) r < _
        rw [hm2]
        omega
      | false =>
        have hsp := takeWhile_at hak HALL.out (by have := HON.out; rwa [if_neg (by decide)] at this)
        have hall := HALL.out
        obtain ⟨d, hd⟩ : ∃ d, (s.drop a).take (k - a) = d := ⟨_, rfl⟩
        have hex : (⟨s.toArray⟩ : ByteArray).extract a k = ⟨d.toArray⟩ := by
          rw [← hd]
          apply ByteArray.ext
          simp [ByteArray.data_extract, List.take_drop]
        have hdl : d.length < 1073741824 := by rw [← hd]; simp; omega
        rw [hd] at hsp hall
        have hnum := number_rok hsp
        have hnv := rnumv_any d hall hdl
        have hai : (a : Int) ≤ (k : Int) := by omega
        have hki : (k : Int) ≤ (s.length : Int) := by omega
        have c0 := hr2.c0
        have c1 := hr2.c1
        have HR2 := Lib.hid hr2
        have HK2 := Lib.hid hk2
        cases hrok : rok d with
        | true =>
          rw [basedVal_ok hrok] at hnv
          rw [if_pos hrok] at hnum
          have hle : Rx.value d ≤ 255 := by
            unfold rok at hrok
            simp at hrok
            exact hrok.2
          have HN := Lib.hid hnum
          clear hd hsp hall hnum hrok hon hr2 hk2
          generalize Rx.value d = n at *
          go_wp2_with fail
          go_quiet ((go_at_call 97; exact Calls.quiet_of_same (hnv _)))
          go_wp2_with fail
          go_ret
          refine ⟨n, k, rfl, Blk.drewN HR2.out nq, ?_, hak, hk, .inl ⟨n, rfl, hle, HN.out⟩⟩
          exact HK2.out.trans (Kept.of_below (below_drewN (Below.refl _ _) _))
        | false =>
          rw [basedVal_bad hrok] at hnv
          rw [if_neg (by rw [hrok]; decide)] at hnum
          have HN := Lib.hid hnum
          clear hd hsp hall hnum hrok hon hr2 hk2
          go_wp2_with fail
          go_quiet ((go_at_call 97; exact Calls.quiet_of_same (hnv _)))
          go_wp2_with fail
          go_ret
          refine ⟨-1, k, rfl, Blk.drewN HR2.out nq, ?_, hak, hk, .inr ⟨rfl, HN.out⟩⟩
          exact HK2.out.trans (Kept.of_below (below_drewN (Below.refl _ _) _))

end Go.Proofs.YthdkbbkkijdhfaaGreatDoor
