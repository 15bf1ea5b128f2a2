/-
  Texts of this seat put together: R10, RT.
-/
import Derived.Test.YthdkbbkkijdhfaaGreatDoorH20
import Derived.Test.YthdkbbkkijdhfaaGreatDoorH16

/-
  The walk of the reference's times. Condition: the reader lies in memory, without fold.
-/
namespace Go.Proofs.YthdkbbkkijdhfaaGreatDoor
open Go.RowKit Go.Shelf Go.Maps

/-- A reader of the reference that walks on. -/
structure GoR (w wx : World) (r : Nat) (s : Rx.Bytes) (a : Nat) (ext bad : Bool) : Prop where
  rd : RfAt wx r s a ext false bad
  kept : Kept (· = r) w wx
  le : a ≤ s.length ∧ s.length < 1073741824

theorem GoR.go {w wx w' : World} {r : Nat} {s : Rx.Bytes} {a a2 : Nat} {ext bad b2 : Bool} (G : GoR w wx r s a ext bad) (hr : RfAt w' r s a2 ext false b2) (hk : Kept (· = r) wx w') (hl : a2 ≤ s.length) : GoR w w' r s a2 ext b2 := ⟨hr, G.kept.trans hk, hl, G.le.2⟩
theorem GoR.below {w wx w' : World} {r : Nat} {s : Rx.Bytes} {a : Nat} {ext bad : Bool} (G : GoR w wx r s a ext bad) (hb : Below wx.heap.size wx w') : GoR w w' r s a ext bad := G.go (G.rd.keep hb) (.of_below hb) G.le.1
theorem GoR.setBad {w wx : World} {r : Nat} {s : Rx.Bytes} {a : Nat} {ext bad : Bool} (G : GoR w wx r s a ext bad) (b2 : Bool) : GoR w (wx.setCell ⟨r, 4, none⟩ (.bool b2)) r s a ext b2 :=
  G.go (G.rd.setBad b2) ((Kept.refl (· = r) wx).setCell (.inl rfl) 4 _) G.le.1
theorem GoR.setAt {w wx : World} {r : Nat} {s : Rx.Bytes} {a : Nat} {ext bad : Bool} (G : GoR w wx r s a ext bad) (a2 : Nat) (hl : a2 ≤ s.length) : GoR w (wx.setCell ⟨r, 1, none⟩ (.int .i64 a2)) r s a2 ext bad :=
  G.go (G.rd.setAt a2) ((Kept.refl (· = r) wx).setCell (.inl rfl) 1 _) hl
theorem GoR.drew {w wx : World} {r : Nat} {s : Rx.Bytes} {a : Nat} {ext bad : Bool} (G : GoR w wx r s a ext bad) : GoR w wx.drew r s a ext bad := ⟨Blk.drew G.rd, G.kept.drew, G.le⟩

theorem GoR.takes {w wx : World} {r : Nat} {s : Rx.Bytes} {a : Nat} {ext bad : Bool} (G : GoR w wx r s a ext bad) (t : Rx.Bytes) (ht : t.length < 1073741824) :
    Calls Tryz.prog 44 #[.pointer (some ⟨r, 0, none⟩), .string ⟨t.toArray⟩] wx fun e w' => ∃ is a2, e = .returned (.bool is) ∧ GoR w w' r s a2 ext bad ∧ a ≤ a2 ∧ Hid (TakeAns t s a is a2) := by
  refine (rtakes_ans r s t a ext false bad wx G.rd G.le.1 G.le.2 ht).mono ?_
  rintro e w' ⟨is, a2, he, hr, hk, h1, h2, h3⟩
  exact ⟨is, a2, he, G.go hr hk h2, h1, h3⟩
theorem GoR.ahead {w wx : World} {r : Nat} {s : Rx.Bytes} {a : Nat} {ext bad : Bool} (G : GoR w wx r s a ext bad) (t : Rx.Bytes) (ht : t.length < 1073741824) :
    Calls Tryz.prog 46 #[.pointer (some ⟨r, 0, none⟩), .string ⟨t.toArray⟩] wx fun e w' => ∃ is, e = .returned (.bool is) ∧ GoR w w' r s a ext bad ∧ Hid (t.isPrefixOf (s.drop a) = is) := by
  refine (ahead_any r s t a ext false bad wx G.rd G.le.1 G.le.2 ht).mono ?_
  rintro e w' ⟨he, hb⟩
  exact ⟨_, he, G.below hb, rfl⟩
theorem GoR.number {w wx : World} {r : Nat} {s : Rx.Bytes} {a : Nat} {ext bad : Bool} (G : GoR w wx r s a ext bad) :
    Calls Tryz.prog 79 #[.pointer (some ⟨r, 0, none⟩)] wx fun e w' => ∃ m a2, e = .returned (.int .i64 m) ∧ GoR w w' r s a2 ext bad ∧ a ≤ a2 ∧ Hid (NumAns s a m a2) := by
  refine (rfnumber_any r s a ext false bad wx G.rd G.le.1 G.le.2).mono ?_
  rintro e w' ⟨m, a2, he, hr, hk, h1, h2, h3⟩
  exact ⟨m, a2, he, G.go hr hk h2, h1, h3⟩

def opn (ext : Bool) : Rx.Bytes := if ext then [123] else [92, 123]
def sht (ext : Bool) : Rx.Bytes := if ext then [125] else [92, 125]
/-- What stands behind the opening brace. -/
def timesIn (shut r : Rx.Bytes) : Option (Option (Nat × Int) × Rx.Bytes) :=
  match Rx.number r with
  | none => none
  | some (m, r1) =>
  match Rx.take [44] r1 with
  | none => (Rx.take shut r1).map fun r2 => (some (m, (m : Int)), r2)
  | some r2 =>
    if shut.isPrefixOf r2 then (Rx.take shut r2).map fun r3 => (some (m, (-1 : Int)), r3)
    else match Rx.number r2 with
      | none => none
      | some (n, r3) => if n < m then none else (Rx.take shut r3).map fun r4 => (some (m, (n : Int)), r4)
theorem times_tail (ext : Bool) (u : Rx.Bytes) (h42 : Rx.take [42] u = none) (he : ext = true → Rx.take [43] u = none ∧ Rx.take [63] u = none) : Rx.times ext u = match Rx.take (opn ext) u with
    | none => some (none, u)
    | some r => timesIn (sht ext) r := by
  unfold Rx.times
  rw [h42]
  cases ext with
  | false => rfl
  | true =>
    obtain ⟨h43, h63⟩ := he rfl
    simp only [if_true, h43, h63]
    rfl

/-- What times hands back and leaves. -/
def RTimesPost (w : World) (r : Nat) (s : Rx.Bytes) (a : Nat) (ext bad : Bool) (e : Ending) (w' : World) : Prop := ∃ m n is a2 b2, e = .returned (.tuple #[.int .i64 m, .int .i64 n, .bool is]) ∧ GoR w w' r s a2 ext b2 ∧ a ≤ a2 ∧ (bad = true → b2 = true) ∧
  (b2 = false → (is = false ∧ Rx.times ext (s.drop a) = some (none, s.drop a2)) ∨ (is = true ∧ ∃ mm : Nat, m = mm ∧ mm ≤ 255 ∧ -1 ≤ n ∧ n ≤ 255 ∧ Rx.times ext (s.drop a) = some (some (mm, n), s.drop a2)))

set_option maxHeartbeats 6400000 in
set_option maxRecDepth 100000 in
theorem rtimes_any (r : Nat) (s : Rx.Bytes) (a : Nat) (ext bad : Bool) (w : World) (hr : RfAt w r s a ext false bad) (ha : a ≤ s.length ∧ s.length < 1073741824) :
    Calls Tryz.prog 60 #[.pointer (some ⟨r, 0, none⟩)] w fun e w' => RTimesPost w r s a ext bad e w' := by
  have G : GoR w w r s a ext bad := ⟨hr, Kept.refl _ _, ha⟩
  have hc := G.takes [42] (by decide)
  clear hr
  go_enter Tryz.func60, Tryz.ntmps60
  go_wp2_with fail
  refine hc.mono ?_
  rintro e w1 ⟨star, a1, rfl, G1, hl1, HT⟩
  clear hc G
  rcases HT.out with ⟨rfl, -, ht⟩ | ⟨rfl, rfl, ht⟩
  · have HX : Hid (Rx.times ext (s.drop a) = some (some (0, -1), s.drop a1)) := by show _ = _; unfold Rx.times; rw [ht]
    clear ht HT
    go_wp2_with fail
    go_ret3
    exact ⟨0, -1, true, a1, bad, rfl, G1, hl1, id, fun _ => .inr ⟨rfl, 0, rfl, by decide, by decide, by decide, HX.out⟩⟩
  · have H42 := Lib.hid ht
    clear ht HT hl1
    have cx := G1.rd.c2
    go_upto_if 22 with fail
    go_cut [6, 7, 8, 9, 22, 23, 24, 25, 26, 27, 28] (fun s6 s7 _s8 _s9 _s22 _s23 _s24 _s25 _s26 _s27 _s28 wx => s6 = .string ⟨(opn ext).toArray⟩ ∧ s7 = .string ⟨(sht ext).toArray⟩ ∧ GoR w wx r s a1 ext bad ∧ Hid (ext = true → Rx.take [43] (s.drop a1) = none ∧ Rx.take [63] (s.drop a1) = none))
    case first =>
      cases ext with
      | false =>
        go_wp2_with fail
        go_meet
        exact ⟨rfl, rfl, G1, fun h => by cases h⟩
      | true =>
        have hc := G1.takes [43] (by decide)
        go_wp2_with fail
        refine hc.mono ?_
        rintro e w2 ⟨plus, a2, rfl, G2, hl2, HT⟩
        clear hc G1 cx
        rcases HT.out with ⟨rfl, -, ht⟩ | ⟨rfl, rfl, ht⟩
        · have HX : Hid (Rx.times true (s.drop a1) = some (some (1, -1), s.drop a2)) := by show _ = _; simp only [Rx.times, H42.out, ht, if_true]
          clear ht HT
          go_wp2_with fail
          go_ret3
          exact ⟨1, -1, true, a2, bad, rfl, G2, hl2, id, fun _ => .inr ⟨rfl, 1, rfl, by decide, by decide, by decide, HX.out⟩⟩
        · have H43 := Lib.hid ht
          clear ht HT hl2
          have hc := G2.takes [63] (by decide)
          go_wp2_with fail
          refine hc.mono ?_
          rintro e w3 ⟨maybe, a3, rfl, G3, hl3, HT⟩
          clear hc G2
          rcases HT.out with ⟨rfl, -, ht⟩ | ⟨rfl, rfl, ht⟩
          · have HX : Hid (Rx.times true (s.drop a2) = some (some (0, 1), s.drop a3)) := by show _ = _; simp only [Rx.times, H42.out, H43.out, ht, if_true]
            clear ht HT
            go_wp2_with fail
            go_ret3
            exact ⟨0, 1, true, a3, bad, rfl, G3, hl3, id, fun _ => .inr ⟨rfl, 0, rfl, by decide, by decide, by decide, HX.out⟩⟩
          · have H63 := Lib.hid ht
            clear ht HT hl3
            go_wp2_with fail
            go_meet
            exact ⟨rfl, rfl, G3, fun _ => ⟨H43.out, H63.out⟩⟩
    case rest =>
      obtain ⟨rfl, rfl, G2, HE⟩ := hcut
      clear G1 cx
      have HT1 := Lib.hid (times_tail ext (s.drop a1) H42.out HE.out)
      clear H42 HE
      obtain ⟨OP, hOP⟩ : ∃ t, opn ext = t := ⟨_, rfl⟩
      obtain ⟨SH, hSH⟩ : ∃ t, sht ext = t := ⟨_, rfl⟩
      have hol : OP.length < 1073741824 := by rw [← hOP]; cases ext <;> decide
      have hsl : SH.length < 1073741824 := by rw [← hSH]; cases ext <;> decide
      rw [hOP, hSH] at HT1
      rw [hOP, hSH]
      clear hOP hSH
      have hc := G2.takes OP hol
      go_wp2_with fail
      refine hc.mono ?_
      rintro e w3 ⟨is, a2, rfl, G3, hl3, HT⟩
      clear hc G2
      rcases HT.out with ⟨rfl, -, ht⟩ | ⟨rfl, rfl, ht⟩
      · have HX : Hid (Rx.times ext (s.drop a1) = timesIn SH (s.drop a2)) := by show _ = _; rw [HT1.out, ht]
        clear ht HT HT1
        have hc := G3.number
        go_wp2_with fail
        refine hc.mono ?_
        rintro e w4 ⟨m, a4, rfl, G4, hl4, HM⟩
        clear hc G3
        have hc := G4.takes [44] (by decide)
        go_wp2_with fail
        refine hc.mono ?_
        rintro e w5 ⟨comma, a5, rfl, G5, hl5, HT⟩
        clear hc G4
        go_upto_if 39 with fail
        go_cut [12, 13, 14, 38, 39, 40, 41, 42, 43, 44, 45, 46, 47, 48, 49, 50, 51, 52] (fun s12 _s13 _s14 _s38 _s39 _s40 _s41 _s42 _s43 _s44 _s45 _s46 _s47 _s48 _s49 _s50 _s51 _s52 wx => ∃ n a6 b6, s12 = .int .i64 n ∧ GoR w wx r s a6 ext b6 ∧ a5 ≤ a6 ∧ (bad = true → b6 = true) ∧ Hid (b6 = false → ∀ mm : Nat, m = mm → mm ≤ 255 ∧ -1 ≤ n ∧ n ≤ 255 ∧ timesIn SH (s.drop a2) = (Rx.take SH (s.drop a6)).map fun u => (some (mm, n), u)))
        case first =>
          rcases HT.out with ⟨rfl, -, ht⟩ | ⟨rfl, rfl, ht⟩
          · have HC := Lib.hid ht
            clear ht HT
            have hc := G5.ahead SH hsl
            go_wp2_with fail
            refine hc.mono ?_
            rintro e w6 ⟨none_, rfl, G6, HA⟩
            clear hc G5
            cases none_ with
            | true =>
              go_wp2_with fail
              go_meet
              refine ⟨-1, a5, bad, rfl, G6, Nat.le_refl _, id, fun _ mm hmm => ?_⟩
              rcases HM.out with ⟨n, rfl, hn, hq⟩ | ⟨rfl, -⟩
              · obtain rfl : n = mm := by omega
                refine ⟨hn, by decide, by decide, ?_⟩
                unfold timesIn
                simp only [hq, HC.out, HA.out, if_true]
              · omega
            | false =>
              have hc := G6.number
              go_wp2_with fail
              refine hc.mono ?_
              rintro e w7 ⟨n, a7, rfl, G7, hl7, HN⟩
              clear hc G6
              have HQ : Hid (¬ n < m → ∀ mm : Nat, m = mm → mm ≤ 255 ∧ -1 ≤ n ∧ n ≤ 255 ∧ timesIn SH (s.drop a2) = (Rx.take SH (s.drop a7)).map fun u => (some (mm, n), u)) := by
                intro hnm mm hmm
                rcases HM.out with ⟨k, rfl, hk, hq⟩ | ⟨rfl, -⟩
                · obtain rfl : k = mm := by omega
                  rcases HN.out with ⟨j, rfl, hj, hq2⟩ | ⟨rfl, -⟩
                  · refine ⟨hk, by omega, by omega, ?_⟩
                    unfold timesIn
                    simp only [hq, HC.out, HA.out, hq2]
                    rw [if_neg (by decide), if_neg (by omega)]
                  · omega
                · omega
              have f4 := G7.rd.free 4
              have c4 := G7.rd.c4
              by_cases hnm : n < m
              · go_wp2_with fail
                go_meet
                exact ⟨n, a7, true, rfl, G7.setBad true, hl7, fun _ => rfl, fun h => by cases h⟩
              · have HNM := Lib.hid hnm
                go_wp2_with fail
                go_meet
                exact ⟨n, a7, bad, rfl, G7, hl7, id, fun _ => HQ.out HNM.out⟩
          · have HC := Lib.hid ht
            clear ht HT
            go_wp2_with fail
            go_meet
            refine ⟨m, a5, bad, rfl, G5, Nat.le_refl _, id, fun _ mm hmm => ?_⟩
            rcases HM.out with ⟨n, rfl, hn, hq⟩ | ⟨rfl, -⟩
            · obtain rfl : n = mm := by omega
              refine ⟨hn, by omega, by omega, ?_⟩
              unfold timesIn
              simp only [hq, HC.out]
            · omega
        case rest =>
          obtain ⟨n, a6, b6, rfl, G6, hl6, hb6, HQ⟩ := hcut
          clear HT G5
          have hc := G6.takes SH hsl
          go_wp2_with fail
          refine hc.mono ?_
          rintro e w8 ⟨closed, a8, rfl, G8, hl8, HT⟩
          clear hc G6
          go_upto_region 29 with fail
          go_cut [15, 55, 56, 57, 58, 59, 60, 61] (fun _s15 _s55 _s56 _s57 _s58 _s59 _s60 s61 wx => s61 = .bool (decide (m < 0) || !closed) ∧ wx = w8)
          case first =>
            by_cases hm : m < 0
            · have HD : Hid (decide (m < 0) = true) := by show _ = _; simpa using hm
              go_wp2_with fail
              go_meet
              exact ⟨by rw [HD.out]; rfl, rfl⟩
            · have HD : Hid (decide (m < 0) = false) := by show _ = _; simpa using hm
              cases closed
              all_goals go_wp2_with fail
              all_goals go_meet
              all_goals exact ⟨by rw [HD.out]; rfl, rfl⟩
          case rest =>
          obtain ⟨rfl, rfl⟩ := hcut
          have f4 := G8.rd.free 4
          have c4 := G8.rd.c4
          go_upto_if 61 with fail
          go_cut [61, 62, 63, 64] (fun _s61 _s62 _s63 _s64 wx => ∃ b9, GoR w wx r s a8 ext b9 ∧ (b6 = true → b9 = true) ∧ Hid (b9 = false → b6 = false ∧ 0 ≤ m ∧ closed = true))
          case first =>
            have H8 := Lib.hid G8
            have H9 := Lib.hid (G8.setBad true)
            clear G8 HT HQ
            cases hmc : decide (m < 0) || !closed with
            | true =>
              clear hmc
              go_wp2_with fail
              go_meet
              exact ⟨true, H9.out, fun _ => rfl, fun h => by cases h⟩
            | false =>
              have HMC := Lib.hid hmc
              clear hmc
              go_wp2_with fail
              go_meet
              refine ⟨b6, H8.out, id, fun h => ⟨h, ?_, ?_⟩⟩
              · have := (Bool.or_eq_false_iff.1 HMC.out).1
                simpa using this
              · have := (Bool.or_eq_false_iff.1 HMC.out).2
                simpa using this
          case rest =>
            obtain ⟨b9, G9, hb9, HB9⟩ := hcut
            clear G8 f4 c4
            go_wp2_with fail
            go_ret3
            refine ⟨m, n, true, a8, b9, rfl, G9, by omega, fun h => hb9 (hb6 h), fun h9 => .inr ⟨rfl, ?_⟩⟩
            obtain ⟨x1, x2, x3⟩ := HB9.out h9
            obtain ⟨mm, rfl⟩ : ∃ mm : Nat, m = mm := ⟨m.toNat, by omega⟩
            obtain ⟨y1, y2, y3, y4⟩ := HQ.out x1 mm rfl
            refine ⟨mm, rfl, y1, y2, y3, ?_⟩
            rcases HT.out with ⟨-, -, ht⟩ | ⟨z1, -, -⟩
            · rw [HX.out, y4, ht]; rfl
            · rw [x3] at z1; cases z1
      · have HX : Hid (Rx.times ext (s.drop a2) = some (none, s.drop a2)) := by show _ = _; rw [HT1.out, ht]
        clear ht HT HT1
        go_wp2_with fail
        go_ret3
        exact ⟨0, 0, false, a2, bad, rfl, G3, Nat.le_refl _, id, fun _ => .inl ⟨rfl, HX.out⟩⟩

end Go.Proofs.YthdkbbkkijdhfaaGreatDoor

/-
  Trees of the reference's reader in memory, whose kids lie apart from one another; rows of pointers to them. No program in sight but for the cells.
  No condition: definitions and their laws.
-/
namespace Go.Proofs.YthdkbbkkijdhfaaGreatDoor
open Go.RowKit Go.Shelf Go.Maps

def catOf : List Rx.Nd → Rx.Nd
  | [x] => x
  | l => .cat l
mutual
/-- An expression without the marks of parentheses. -/
def strip : Rx.Nd → Rx.Nd
  | .cat l => catOf (strips l)
  | .alt l => .alt (strips l)
  | .rep m k n => .rep m k (strip n)
  | .empty => .empty
  | .set h => .set h
  | .beg => .beg
  | .fin => .fin
def strips : List Rx.Nd → List Rx.Nd
  | [] => []
  | x :: r => strip x :: strips r
end
theorem strips_map (l : List Rx.Nd) : strips l = l.map strip := by
  induction l with
  | nil => simp [strips]
  | cons x r ih => simp [strips, ih]
theorem catOf_long {l : List Rx.Nd} (h : l.length ≠ 1) : catOf l = .cat l := by
  match l with
  | [] => rfl
  | [x] => simp at h
  | x :: y :: r => rfl
theorem strip_cat (l : List Rx.Nd) : strip (.cat l) = catOf (l.map strip) := by rw [strip, strips_map]
theorem strip_alt (l : List Rx.Nd) : strip (.alt l) = .alt (l.map strip) := by rw [strip, strips_map]
theorem strip_joinCat (l : List Rx.Nd) : strip (Rx.joinN .cat l) = Rx.joinN .cat (l.map strip) := by
  match l with
  | [] => simp [Rx.joinN, strip]
  | [x] => simp [Rx.joinN]
  | x :: y :: r => simp only [Rx.joinN, strip_cat, List.map_cons, catOf]
theorem strip_joinAlt (l : List Rx.Nd) : strip (Rx.joinN .alt l) = Rx.joinN .alt (l.map strip) := by
  match l with
  | [] => simp [Rx.joinN, strip]
  | [x] => simp [Rx.joinN]
  | x :: y :: r => simp only [Rx.joinN, strip_alt, List.map_cons]

/-- A row of pointers to nodes. -/
def Row (w : World) (k : Nat) (ps : List Nat) : Prop := ∃ cur : Array Value, Blk w k cur 24 ∧ ∀ i, i < ps.length → cur[i]? = some (ptrV (ps.getD i 0))
theorem Row.kept {S : Nat → Prop} {w w' : World} {k : Nat} {ps : List Nat} (h : Row w k ps) (hk : Kept S w w') (hS : ¬ S k) : Row w' k ps := by
  obtain ⟨cur, hb, hc⟩ := h
  exact ⟨cur, hb.kept hk hS, hc⟩
theorem Row.lt {w : World} {k : Nat} {ps : List Nat} (h : Row w k ps) : k < w.heap.size := by
  obtain ⟨cur, hb, -⟩ := h
  exact hb.lt
theorem Row.cell {w : World} {k : Nat} {ps : List Nat} (h : Row w k ps) (i : Nat) (hi : i < ps.length) : w.cell? ⟨k, i, none⟩ = some (.pointer (some ⟨ps.getD i 0, 0, none⟩)) := by
  obtain ⟨cur, hb, hc⟩ := h
  exact hb.cell i (hc i hi)
theorem Row.free {w : World} {k : Nat} {ps : List Nat} (h : Row w k ps) (i : Nat) : w.frozen? ⟨k, i, none⟩ = false := by
  obtain ⟨cur, hb, -⟩ := h
  exact hb.free i
theorem Row.set {w : World} {k : Nat} {ps : List Nat} (h : Row w k ps) (i q : Nat) (hi : i < ps.length) : Row (w.setCell ⟨k, i, none⟩ (ptrV q)) k (ps.set i q) := by
  obtain ⟨cur, hb, hc⟩ := h
  refine ⟨_, hb.set i (ptrV q), fun j hj => ?_⟩
  rw [List.length_set] at hj
  have hcj := hc j hj
  have hsz : j < cur.size := (Array.getElem?_eq_some_iff.1 hcj).1
  rw [Array.getElem?_setIfInBounds]
  by_cases he : i = j
  · subst he
    rw [if_pos rfl, if_pos hsz]
    simp [List.getD_eq_getElem?_getD, hi]
  · rw [if_neg he, hcj]
    simp [List.getD_eq_getElem?_getD, List.getElem?_set_ne he]

/-- The kids' blocks lie apart, from one another and from what holds them. -/
def Apart (M : Nat → Prop) (p k n : Nat) (Ms : Nat → Nat → Prop) : Prop := ∀ i, i < n → ∀ b, Ms i b → M b ∧ b ≠ p ∧ b ≠ k ∧ ∀ j, j < n → j ≠ i → ¬ Ms j b

/-- A node of the reference's reader lies at a block, and all blocks that belong to it are some. -/
inductive RtIn (w : World) : (Nat → Prop) → Nat → Rx.Nd → Prop
  | empty {M : Nat → Prop} {p : Nat} (hp : M p) (hb : Blk w p (ndCells 0 noHas 0 0 (.slice none 0 0)) 68) : RtIn w M p .empty
  | set {M : Nat → Prop} {p : Nat} {h : Rx.Has} (hp : M p) (hb : Blk w p (setCells h) 68) : RtIn w M p (.set h)
  | beg {M : Nat → Prop} {p : Nat} (hp : M p) (hb : Blk w p (ndCells 2 noHas 0 0 (.slice none 0 0)) 68) : RtIn w M p .beg
  | fin {M : Nat → Prop} {p : Nat} (hp : M p) (hb : Blk w p (ndCells 3 noHas 0 0 (.slice none 0 0)) 68) : RtIn w M p .fin
  | cat {M : Nat → Prop} {p k c : Nat} {l : List Rx.Nd} {ps : List Nat} {Ms : Nat → Nat → Prop} (hp : M p) (hb : Blk w p (ndCells 4 noHas 0 0 (.slice (some ⟨k, 0, none⟩) l.length c)) 68)
      (h0 : 0 < l.length) (hl : l.length ≤ 1073741824) (hk : M k) (hpk : p ≠ k) (hpl : ps.length = l.length) (hps : Row w k ps) (hs : Apart M p k l.length Ms) (hn : ∀ i, i < l.length → RtIn w (Ms i) (ps.getD i 0) (l.getD i .empty)) : RtIn w M p (.cat l)
  | alt {M : Nat → Prop} {p k c : Nat} {l : List Rx.Nd} {ps : List Nat} {Ms : Nat → Nat → Prop} (hp : M p) (hb : Blk w p (ndCells 5 noHas 0 0 (.slice (some ⟨k, 0, none⟩) l.length c)) 68)
      (h0 : 0 < l.length) (hl : l.length ≤ 1073741824) (hk : M k) (hpk : p ≠ k) (hpl : ps.length = l.length) (hps : Row w k ps) (hs : Apart M p k l.length Ms) (hn : ∀ i, i < l.length → RtIn w (Ms i) (ps.getD i 0) (l.getD i .empty)) : RtIn w M p (.alt l)
  | rep {M : Nat → Prop} {p k m c : Nat} {most : Int} {n : Rx.Nd} {ps : List Nat} {Ms : Nat → Nat → Prop} (hp : M p) (hb : Blk w p (ndCells 6 noHas m most (.slice (some ⟨k, 0, none⟩) 1 c)) 68)
      (hm : m ≤ 255 ∧ -1 ≤ most ∧ most ≤ 255) (hk : M k) (hpk : p ≠ k) (hpl : ps.length = 1) (hps : Row w k ps) (hs : Apart M p k 1 Ms) (hn : RtIn w (Ms 0) (ps.getD 0 0) n) : RtIn w M p (.rep m most n)

theorem Apart.mono {M M' : Nat → Prop} {p k n : Nat} {Ms : Nat → Nat → Prop} (h : Apart M p k n Ms) (hM : ∀ b, M b → M' b) : Apart M' p k n Ms := fun i hi b hb => ⟨hM b (h i hi b hb).1, (h i hi b hb).2⟩

theorem RtIn.mono {M M' : Nat → Prop} {w : World} {p : Nat} {n : Rx.Nd} (h : RtIn w M p n) (hB : ∀ k, M k → M' k) : RtIn w M' p n := by
  cases h with
  | empty hp hb => exact .empty (hB _ hp) hb
  | set hp hb => exact .set (hB _ hp) hb
  | beg hp hb => exact .beg (hB _ hp) hb
  | fin hp hb => exact .fin (hB _ hp) hb
  | cat hp hb h0 hl hk hpk hpl hps hs hn => exact .cat (hB _ hp) hb h0 hl (hB _ hk) hpk hpl hps (hs.mono hB) hn
  | alt hp hb h0 hl hk hpk hpl hps hs hn => exact .alt (hB _ hp) hb h0 hl (hB _ hk) hpk hpl hps (hs.mono hB) hn
  | rep hp hb hm hk hpk hpl hps hs hn => exact .rep (hB _ hp) hb hm (hB _ hk) hpk hpl hps (hs.mono hB) hn

theorem RtIn.kept {S M : Nat → Prop} {w w' : World} {p : Nat} {n : Rx.Nd} (h : RtIn w M p n) (hk : Kept S w w') : (∀ k, M k → ¬ S k) → RtIn w' M p n := by
  induction h with
  | empty hp hb => intro hS; exact .empty hp (hb.kept hk (hS _ hp))
  | set hp hb => intro hS; exact .set hp (hb.kept hk (hS _ hp))
  | beg hp hb => intro hS; exact .beg hp (hb.kept hk (hS _ hp))
  | fin hp hb => intro hS; exact .fin hp (hb.kept hk (hS _ hp))
  | cat hp hb h0 hl hk' hpk hpl hps hs _ ih => intro hS; exact .cat hp (hb.kept hk (hS _ hp)) h0 hl hk' hpk hpl (hps.kept hk (hS _ hk')) hs fun i hi => ih i hi fun b hb => hS b (hs i hi b hb).1
  | alt hp hb h0 hl hk' hpk hpl hps hs _ ih => intro hS; exact .alt hp (hb.kept hk (hS _ hp)) h0 hl hk' hpk hpl (hps.kept hk (hS _ hk')) hs fun i hi => ih i hi fun b hb => hS b (hs i hi b hb).1
  | rep hp hb hm hk' hpk hpl hps hs _ ih => intro hS; exact .rep hp (hb.kept hk (hS _ hp)) hm hk' hpk hpl (hps.kept hk (hS _ hk')) hs (ih fun b hb => hS b (hs 0 (by decide) b hb).1)

/-- Its blocks are there. -/
theorem RtIn.lt {M : Nat → Prop} {w : World} {p : Nat} {n : Rx.Nd} (h : RtIn w M p n) : RtIn w (fun k => M k ∧ k < w.heap.size) p n := by
  induction h with
  | empty hp hb => exact .empty ⟨hp, hb.lt⟩ hb
  | set hp hb => exact .set ⟨hp, hb.lt⟩ hb
  | beg hp hb => exact .beg ⟨hp, hb.lt⟩ hb
  | fin hp hb => exact .fin ⟨hp, hb.lt⟩ hb
  | cat hp hb h0 hl hk' hpk hpl hps hs _ ih =>
    rename_i Ms _
    exact .cat (Ms := fun i b => Ms i b ∧ b < w.heap.size) ⟨hp, hb.lt⟩ hb h0 hl ⟨hk', hps.lt⟩ hpk hpl hps (fun i hi b hb => ⟨⟨(hs i hi b hb.1).1, hb.2⟩, (hs i hi b hb.1).2.1, (hs i hi b hb.1).2.2.1, fun j hj hne h => (hs i hi b hb.1).2.2.2 j hj hne h.1⟩) ih
  | alt hp hb h0 hl hk' hpk hpl hps hs _ ih =>
    rename_i Ms _
    exact .alt (Ms := fun i b => Ms i b ∧ b < w.heap.size) ⟨hp, hb.lt⟩ hb h0 hl ⟨hk', hps.lt⟩ hpk hpl hps (fun i hi b hb => ⟨⟨(hs i hi b hb.1).1, hb.2⟩, (hs i hi b hb.1).2.1, (hs i hi b hb.1).2.2.1, fun j hj hne h => (hs i hi b hb.1).2.2.2 j hj hne h.1⟩) ih
  | rep hp hb hm hk' hpk hpl hps hs _ ih =>
    rename_i Ms _
    exact .rep (Ms := fun i b => Ms i b ∧ b < w.heap.size) ⟨hp, hb.lt⟩ hb hm ⟨hk', hps.lt⟩ hpk hpl hps (fun i hi b hb => ⟨⟨(hs i hi b hb.1).1, hb.2⟩, (hs i hi b hb.1).2.1, (hs i hi b hb.1).2.2.1, fun j hj hne h => (hs i hi b hb.1).2.2.2 j hj hne h.1⟩) ih

theorem RtIn.at_ {M : Nat → Prop} {w : World} {p : Nat} {n : Rx.Nd} (h : RtIn w M p n) : M p := by
  cases h <;> assumption

/-- A slice of pointers in memory, that is the call's own. -/
structure PtsAt (w : World) (B : Nat) (v : Value) (ps : List Nat) : Prop where
  none_ : ps = [] → v = .slice none 0 0
  own : w.ownsRow B 24 1 v ps.length (ps.map ptrV)

theorem PtsAt.nil (w : World) (B : Nat) : PtsAt w B (.slice none 0 0) [] := ⟨fun _ => rfl, World.ownsRow_nil _ _ _ _⟩
theorem PtsAt.kept {S : Nat → Prop} {w w' : World} {B : Nat} {v : Value} {ps : List Nat} (h : PtsAt w B v ps) (hk : Kept S w w') (hS : ∀ k, B ≤ k → ¬ S k) : PtsAt w' B v ps := by
  refine ⟨h.none_, ?_⟩
  obtain ⟨h1, h2 | ⟨g, cap, cur, e, hg, hb, r⟩⟩ := h.own
  · exact ⟨h1, .inl h2⟩
  · exact ⟨h1, .inr ⟨g, cap, cur, e, hg, (hk.block g (lt_of_block hb) (hS g hg)).trans hb, r⟩⟩

theorem PtsAt.ex {w : World} {B : Nat} {v : Value} {ps : List Nat} (h : PtsAt w B v ps) : (ps = [] ∧ v = .slice none 0 0) ∨ ∃ (k c : Nat), v = .slice (some ⟨k, 0, none⟩) ps.length c ∧ v.ownBlock = some k ∧ ps.length ≤ c ∧ 0 < ps.length ∧ B ≤ k ∧ Row w k ps := by
  cases ps with
  | nil => exact .inl ⟨rfl, h.none_ rfl⟩
  | cons x t =>
    right
    have ho := h.own
    rcases ho.2 with ⟨-, h2⟩ | ⟨g, cap, cur, e, hg, hb, hc, hm, hs, ht⟩
    · simp at h2
    · refine ⟨g, cap, e, by rw [e]; rfl, by omega, by simp, hg, cur, hb, ?_⟩
      intro i hi
      have := ho.cells (g := g) (by rw [e]; rfl) i (ptrV ((x :: t).getD i 0)) (by rw [List.getElem?_map, List.getElem?_eq_getElem hi]; simp [List.getD_eq_getElem?_getD, List.getElem?_eq_getElem hi])
      rw [show ((⟨g, 0, none⟩ : Addr).add i) = ⟨g, i, none⟩ by simp only [Addr.add]; split <;> simp_all] at this
      unfold World.cell? at this
      simp only [hb] at this
      simpa using this

/-- Trees behind pointers, apart from one another and from the slice; between two bounds. -/
def TreesAt (w : World) (B H : Nat) (v : Value) (ps : List Nat) (l : List Rx.Nd) : Prop := ps.length = l.length ∧ H ≤ w.heap.size ∧ ∃ Ms : Nat → Nat → Prop,
  (∀ i, i < l.length → RtIn w (Ms i) (ps.getD i 0) (l.getD i .empty)) ∧ ∀ i, i < l.length → ∀ b, Ms i b → B ≤ b ∧ b < H ∧ v.ownBlock ≠ some b ∧ ∀ j, j < l.length → j ≠ i → ¬ Ms j b

theorem TreesAt.nil {w : World} (B : Nat) {H : Nat} (v : Value) (hH : H ≤ w.heap.size) : TreesAt w B H v [] [] := ⟨rfl, hH, fun _ _ => True, fun i hi => absurd hi (Nat.not_lt_zero i), fun i hi => absurd hi (Nat.not_lt_zero i)⟩
theorem TreesAt.kept {S : Nat → Prop} {w w' : World} {B H : Nat} {v : Value} {ps : List Nat} {l : List Rx.Nd} (h : TreesAt w B H v ps l) (hk : Kept S w w') (hS : ∀ k, B ≤ k → k < H → v.ownBlock ≠ some k → ¬ S k) : TreesAt w' B H v ps l := by
  obtain ⟨h1, hH, Ms, h2, h3⟩ := h
  exact ⟨h1, Nat.le_trans hH hk.size, Ms, fun i hi => (h2 i hi).kept hk fun b hb => hS b (h3 i hi b hb).1 (h3 i hi b hb).2.1 (h3 i hi b hb).2.2.1, h3⟩
theorem TreesAt.up {w : World} {B H H' : Nat} {v : Value} {ps : List Nat} {l : List Rx.Nd} (h : TreesAt w B H v ps l) (hH : H ≤ H') (hw : H' ≤ w.heap.size) : TreesAt w B H' v ps l := by
  obtain ⟨h1, -, Ms, h2, h3⟩ := h
  refine ⟨h1, hw, Ms, h2, fun i hi b hb => ?_⟩
  obtain ⟨x1, x2, x3⟩ := h3 i hi b hb
  exact ⟨x1, by omega, x3⟩

theorem PtsAt.push {w1 : World} {B q : Nat} {v' : Value} {ps : List Nat} (hown : w1.ownsRow B 24 1 v' (ps.length + 1) (ps.map ptrV ++ [ptrV q])) : PtsAt w1 B v' (ps ++ [q]) :=
  ⟨fun e => by simp at e, by simpa using hown⟩

theorem getD_push {α : Type} (l : List α) (x d : α) (i : Nat) : (l ++ [x]).getD i d = if i < l.length then l.getD i d else if i = l.length then x else d := by
  simp only [List.getD_eq_getElem?_getD]
  split
  · rename_i h; rw [List.getElem?_append_left h]
  · rename_i h
    split
    · rename_i h2; subst h2; simp
    · rename_i h2; rw [List.getElem?_eq_none (by simp; omega)]; rfl

theorem TreesAt.push {w w1 : World} {B H H' q : Nat} {v v' : Value} {l : List Rx.Nd} {n : Rx.Nd} {ps : List Nat} {o : Obj} {Mq : Nat → Prop} (h : TreesAt w B H v ps l) (hn : RtIn w Mq q n)
    (hq : ∀ b, Mq b → H ≤ b ∧ b < H' ∧ B ≤ b ∧ v.ownBlock ≠ some b) (hH : H ≤ H') (hH2 : H' ≤ w.heap.size)
    (hg : (w.alloc o).grownBy w1 v.ownBlock) (hv : v'.ownBlock = v.ownBlock ∨ v'.ownBlock = some (w.alloc o).heap.size) : TreesAt w1 B H' v' (ps ++ [q]) (l ++ [n]) := by
  obtain ⟨hl, hHw, Ms, h2, h3⟩ := h
  have hk : Kept (fun b => v.ownBlock = some b) (w.alloc o) w1 := ⟨hg.os, hg.tape, hg.output, hg.size, fun k hk hs => hg.block k hk (fun e => hs e.symm)⟩
  have hk0 : Kept (fun _ => False) w (w.alloc o) := (Kept.refl _ _).alloc _
  have hsz : w.heap.size ≤ w1.heap.size := by
    have h1 := hg.size
    have h2 : (w.alloc o).heap.size = w.heap.size + 1 := by simp
    omega
  have mv : ∀ {M : Nat → Prop} {p : Nat} {x : Rx.Nd}, RtIn w M p x → (∀ b, M b → v.ownBlock ≠ some b) → RtIn w1 M p x := by
    intro M p x hx hM
    exact (hx.kept hk0 fun _ _ h => h).kept hk fun k hk hs => hM k hk hs
  have hvb : ∀ b, b < w.heap.size → v.ownBlock ≠ some b → v'.ownBlock ≠ some b := by
    intro b hb hne e
    rcases hv with hv | hv
    · exact hne (hv ▸ e)
    · rw [hv] at e
      have := Option.some.inj e
      have h2 : (w.alloc o).heap.size = w.heap.size + 1 := by simp
      omega
  refine ⟨by simp [hl], by omega, fun i b => if i < l.length then Ms i b else Mq b, fun i hi => ?_, fun i hi b hb => ?_⟩
  · rw [getD_push, getD_push, hl]
    simp only [List.length_append, List.length_singleton] at hi
    by_cases h1 : i < l.length
    · simp only [if_pos h1]
      exact mv (h2 i h1) fun b hb => (h3 i h1 b hb).2.2.1
    · have he : i = l.length := by omega
      simp only [if_neg h1, if_pos he]
      exact mv hn fun b hb => (hq b hb).2.2.2
  · simp only [List.length_append, List.length_singleton] at hi ⊢
    simp only at hb
    by_cases h1 : i < l.length
    · rw [if_pos h1] at hb
      obtain ⟨x1, x2, x3, x4⟩ := h3 i h1 b hb
      refine ⟨x1, by omega, hvb b (by omega) x3, fun j hj hne => ?_⟩
      by_cases h2 : j < l.length
      · simp only [if_pos h2]; exact x4 j h2 hne
      · simp only [if_neg h2]
        intro hb2
        have := (hq b hb2).1
        omega
    · rw [if_neg h1] at hb
      obtain ⟨x1, x2, x3, x4⟩ := hq b hb
      refine ⟨x3, x2, hvb b (by omega) x4, fun j hj hne => ?_⟩
      have h2 : j < l.length := by omega
      simp only [if_pos h2]
      intro hb2
      have := (h3 j h2 b hb2).2.1
      omega

/-- A list of nodes, made of a slice of them. -/
theorem TreesAt.made {w w' : World} {B H p c k : Nat} {kind : Int} {mk : List Rx.Nd → Rx.Nd} {v : Value} {l : List Rx.Nd} {ps : List Nat} (hk : Kind2 kind mk) (h : TreesAt w B H v ps l) (hk' : Kept (fun _ => False) w w')
    (hv : v.ownBlock = some k) (hr : Row w k ps) (hBk : B ≤ k) (hp : w.heap.size ≤ p) (hb : Blk w' p (ndCells kind noHas 0 0 (.slice (some ⟨k, 0, none⟩) l.length c)) 68) (h0 : 0 < l.length) (hl : l.length ≤ 1073741824) : RtIn w' (fun b => B ≤ b ∧ b < w'.heap.size) p (mk l) := by
  obtain ⟨hpl, hH, Ms, h2, h3⟩ := h
  have hlt := hr.lt
  have hsz := hk'.size
  have hplt := hb.lt
  have hn : ∀ i, i < l.length → RtIn w' (Ms i) (ps.getD i 0) (l.getD i .empty) := fun i hi => (h2 i hi).kept hk' fun _ _ h => h
  have hs : Apart (fun b => B ≤ b ∧ b < w'.heap.size) p k l.length Ms := by
    intro i hi b hb
    obtain ⟨x1, x2, x3, x4⟩ := h3 i hi b hb
    refine ⟨⟨x1, by omega⟩, by omega, fun e => x3 (by rw [hv, e]), x4⟩
  have hr' := hr.kept hk' id
  cases hk with
  | cat => exact .cat ⟨by omega, hplt⟩ hb h0 hl ⟨hBk, by omega⟩ (by omega) hpl hr' hs hn
  | alt => exact .alt ⟨by omega, hplt⟩ hb h0 hl ⟨hBk, by omega⟩ (by omega) hpl hr' hs hn

end Go.Proofs.YthdkbbkkijdhfaaGreatDoor
