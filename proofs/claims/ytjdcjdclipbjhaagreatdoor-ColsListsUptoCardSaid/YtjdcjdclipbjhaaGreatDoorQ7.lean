/-
  Texts of this seat put together: StNum, C2, C3.
-/
import Derived.Test.YtjdcjdclipbjhaaGreatDoorQ5
import Derived.Test.YtjdcjdclipbjhaaGreatDoorQ6

/-
  The walks of the document's Based and Number, to base ten, at most MaxNum. Condition: lengths.
-/
namespace Go.Proofs.YtjdcjdclipbjhaaGreatDoor
open Go.RowKit Go.Shelf Go.Maps

theorem ordv_append (a b : Ord.Bytes) : Ord.value (a ++ b) = b.foldl (fun n c => n * 10 + (c.toNat - 48)) (Ord.value a) := by
  unfold Ord.value
  rw [List.foldl_append]
theorem ordv_snoc (a : Ord.Bytes) (c : UInt8) : Ord.value (a ++ [c]) = Ord.value a * 10 + (c.toNat - 48) := by
  rw [ordv_append]
  rfl
theorem ordv_take (s : Ord.Bytes) (i : Nat) : Ord.value (s.take i) ≤ Ord.value s := by
  conv => rhs; rw [← List.take_append_drop i s, ordv_append]
  exact Ord.valueFrom_ge _ _

set_option maxHeartbeats 6400000 in
set_option maxRecDepth 100000 in
theorem rbased_any (d : Ord.Bytes) (hl : d.length < 1073741824) (w : World) :
    Calls Tryz.prog 65 #[.string ⟨d.toArray⟩, .int .i64 2147483647, .int .i64 10] w fun e w' => e = .returned (numVal d 2147483647) ∧ w' = w := by
  have HOK : Hid (d ≠ [] → d.all Ord.digit = true → Ord.value d ≤ 2147483647 → numVal d 2147483647 = .tuple #[.int .i64 (Ord.value d : Nat), .bool true]) := fun h1 h2 h3 => numVal_some h1 h2 (by omega)
  have HBAD : Hid (d = [] ∨ d.all Ord.digit = false ∨ 2147483647 < Ord.value d → numVal d 2147483647 = .tuple #[.int .i64 0, .bool false]) := fun h => numVal_none (by
    rcases h with h | h | h
    · exact .inl h
    · exact .inr (.inl h)
    · exact .inr (.inr (by omega)))
  obtain ⟨BV, hBV⟩ : ∃ v, numVal d 2147483647 = v := ⟨_, rfl⟩
  rw [hBV] at HOK HBAD ⊢
  clear hBV
  go_enter Tryz.func65, Tryz.ntmps65
  by_cases h0 : d = []
  · have hz : (d.length : Int) = 0 := by rw [h0]; rfl
    have HB := HBAD.out (.inl h0)
    have HB2 := Lib.hid HB
    clear HB HOK HBAD h0
    go_wp2_with fail
    go_ret2
    exact ⟨by rw [HB2.out]; rfl, rfl⟩
  · have hpos : 0 < d.length := List.length_pos_iff.2 h0
    have hne : ¬ ((d.length : Int) = 0) := by omega
    have HN := Lib.hid h0
    clear h0
    go_wp2_with fail
    go_loop [8, 9] (fun x8 x9 => ∃ i n : Nat, i ≤ d.length ∧ x9 = .int .i64 i ∧ x8 = .int .i64 n ∧ n ≤ 2147483647 ∧ Hid (Ord.value (d.take i) = n) ∧ Hid ((d.take i).all Ord.digit = true)) (fun _ x9 => d.length - (intOf x9).toNat)
    case atStart => exact ⟨0, 0, Nat.zero_le _, rfl, rfl, by omega, rfl, rfl⟩
    case round =>
      obtain ⟨i, n, hi, rfl, rfl, hn, HV, HD⟩ := hrel
      by_cases hlt : i < d.length
      · have hgd : d.getD i 0 = d[i] := by rw [List.getD_eq_getElem?_getD, List.getElem?_eq_getElem hlt]; rfl
        have HV2 : Hid (Ord.value (d.take (i + 1)) = n * 10 + (d[i].toNat - 48)) := by
          show _ = _
          rw [List.take_succ_eq_append_getElem hlt, ordv_snoc, HV.out]
        have HT := Lib.hid (ordv_take d (i + 1))
        have HF : Hid (Ord.digit d[i] = false → d.all Ord.digit = false) := fun h => all_false_at d i hlt (by rw [hgd]; exact h)
        have HA : Hid (Ord.digit d[i] = true → (d.take (i + 1)).all Ord.digit = true) := fun h => by rw [all_take d i hlt, HD.out, hgd, h]; rfl
        clear hgd HD
        obtain ⟨x, hx, i0⟩ : ∃ x, d[i] = x ∧ ∀ h, (⟨d.toArray⟩ : ByteArray)[i]'h = x := ⟨d[i], rfl, fun _ => rfl⟩
        rw [hx] at HV2 HF HA
        clear hx
        have hb := u8_bd x
        have hwx : wrap64 (x.toNat : Int) = (x.toNat : Int) := by simp [wrap64]; omega
        by_cases hlo : (x.toNat : Int) < 48
        · have HB2 := Lib.hid (HBAD.out (.inr (.inl (HF.out (digit_no (.inl hlo))))))
          clear HOK HBAD HV HV2 HT HF HA
          go_wp2_with fail
          go_ret2
          exact ⟨by rw [HB2.out]; rfl, rfl⟩
        · by_cases hhi : (58 : Int) ≤ (x.toNat : Int)
          · have HB2 := Lib.hid (HBAD.out (.inr (.inl (HF.out (digit_no (.inr (by omega)))))))
            clear HOK HBAD HV HV2 HT HF HA
            go_wp2_with fail
            go_ret2
            exact ⟨by rw [HB2.out]; rfl, rfl⟩
          · have hdg := digit_yes (c := x) (by omega) (by omega)
            have HDG := Lib.hid hdg
            clear hdg
            have hw : ((x.toNat : Int) - 48) % 256 = (x.toNat : Int) - 48 := by omega
            by_cases hok : n * 10 + (x.toNat - 48) ≤ 2147483647
            · have k1 : ¬ ((214748364 : Int) < (n : Int)) := by omega
              have k2 : ¬ ((2147483647 : Int) - ((x.toNat : Int) - 48) < (n : Int) * 10) := by omega
              go_wp2_with fail
              refine ⟨⟨i + 1, n * 10 + (x.toNat - 48), by omega, by go_num, by go_num, hok, HV2.out, HA.out HDG.out⟩, ?_⟩
              show d.length - ((i : Int) + 1).toNat < d.length - (i : Int).toNat
              omega
            · have HB := HBAD.out (.inr (.inr (by have := HT.out; have := HV2.out; omega)))
              have HB2 := Lib.hid HB
              clear HB HOK HBAD HV HV2 HT HF HA
              by_cases h25 : (214748364 : Int) < (n : Int)
              · have k0 := h25
                go_wp2_with fail
                go_loop [11] (fun x11 => ∃ k : Nat, k ≤ d.length ∧ x11 = .int .i64 k) (fun x11 => d.length - (intOf x11).toNat)
                case atStart => exact ⟨i, hi, rfl⟩
                case round =>
                  obtain ⟨k, hk, rfl⟩ := hrel
                  by_cases hlt2 : k < d.length
                  · obtain ⟨y, hy, i1⟩ : ∃ y, d[k] = y ∧ ∀ h, (⟨d.toArray⟩ : ByteArray)[k]'h = y := ⟨d[k], rfl, fun _ => rfl⟩
                    clear hy
                    have hb2 := u8_bd y
                    have hwy : wrap64 (y.toNat : Int) = (y.toNat : Int) := by simp [wrap64]; omega
                    by_cases g3 : (y.toNat : Int) < 48
                    · go_wp2_with fail
                      go_ret2
                      exact ⟨by rw [HB2.out]; rfl, rfl⟩
                    · by_cases g4 : (58 : Int) ≤ (y.toNat : Int)
                      · go_wp2_with fail
                        go_ret2
                        exact ⟨by rw [HB2.out]; rfl, rfl⟩
                      · go_wp2_with fail
                        refine ⟨⟨k + 1, by omega, by go_num⟩, ?_⟩
                        show d.length - ((k : Int) + 1).toNat < d.length - (k : Int).toNat
                        omega
                  · obtain rfl : k = d.length := by omega
                    go_wp2_with fail
                    go_ret2
                    exact ⟨by rw [HB2.out]; rfl, rfl⟩
              · have k2 : (2147483647 : Int) - ((x.toNat : Int) - 48) < (n : Int) * 10 := by omega
                go_wp2_with fail
                go_loop [11] (fun x11 => ∃ k : Nat, k ≤ d.length ∧ x11 = .int .i64 k) (fun x11 => d.length - (intOf x11).toNat)
                case atStart => exact ⟨i, hi, rfl⟩
                case round =>
                  obtain ⟨k, hk, rfl⟩ := hrel
                  by_cases hlt2 : k < d.length
                  · obtain ⟨y, hy, i1⟩ : ∃ y, d[k] = y ∧ ∀ h, (⟨d.toArray⟩ : ByteArray)[k]'h = y := ⟨d[k], rfl, fun _ => rfl⟩
                    clear hy
                    have hb2 := u8_bd y
                    have hwy : wrap64 (y.toNat : Int) = (y.toNat : Int) := by simp [wrap64]; omega
                    by_cases g3 : (y.toNat : Int) < 48
                    · go_wp2_with fail
                      go_ret2
                      exact ⟨by rw [HB2.out]; rfl, rfl⟩
                    · by_cases g4 : (58 : Int) ≤ (y.toNat : Int)
                      · go_wp2_with fail
                        go_ret2
                        exact ⟨by rw [HB2.out]; rfl, rfl⟩
                      · go_wp2_with fail
                        refine ⟨⟨k + 1, by omega, by go_num⟩, ?_⟩
                        show d.length - ((k : Int) + 1).toNat < d.length - (k : Int).toNat
                        omega
                  · obtain rfl : k = d.length := by omega
                    go_wp2_with fail
                    go_ret2
                    exact ⟨by rw [HB2.out]; rfl, rfl⟩
      · obtain rfl : i = d.length := by omega
        rw [List.take_of_length_le (Nat.le_refl _)] at HV HD
        have HB := HOK.out HN.out HD.out (by rw [HV.out]; exact hn)
        rw [HV.out] at HB
        have HB2 := Lib.hid HB
        clear HB HOK HBAD HV HD
        have k1 : (n : Int) ≤ 2147483647 := by omega
        go_wp2_with fail
        go_ret2
        exact ⟨by rw [HB2.out]; rfl, rfl⟩

set_option maxRecDepth 100000 in
theorem rnum_any (d : Ord.Bytes) (hl : d.length < 1073741824) (w : World) :
    Calls Tryz.prog 31 #[.string ⟨d.toArray⟩, .int .i64 2147483647] w fun e w' => e = .returned (numVal d 2147483647) ∧ w' = w := by
  have hb := rbased_any d hl w
  have hx : ∃ n b, numVal d 2147483647 = .tuple #[.int .i64 n, .bool b] := by
    unfold numVal; split <;> exact ⟨_, _, rfl⟩
  obtain ⟨n, b, hx⟩ := hx
  rw [hx] at hb ⊢
  clear hx
  go_enter Tryz.func31, Tryz.ntmps31
  go_wp2_with fail
  refine hb.mono ?_
  rintro e w' ⟨rfl, rfl⟩
  go_wp2_with fail
  go_ret2
  exact ⟨rfl, rfl⟩

end Go.Proofs.YtjdcjdclipbjhaaGreatDoor

/-
  The walk of the document's part of a list. Condition: lengths.
-/
namespace Go.Proofs.YtjdcjdclipbjhaaGreatDoor
open Go.RowKit Go.Shelf Go.Maps

/-- Where the first stroke stands. -/
theorem dash_at (s : Bts) (i : Nat) (hi : i < s.length) : (Lib.indexByte s 45 < 0 → s[i] ≠ 45) ∧ ((i : Int) < Lib.indexByte s 45 → s[i] ≠ 45) ∧ ((i : Int) = Lib.indexByte s 45 → s[i] = 45) := by
  rcases Int.lt_or_le (Lib.indexByte s 45) 0 with h | h
  · have h1 : Lib.indexByte s 45 = -1 := by have := Lib.indexByte_ge s 45; omega
    have h2 := Lib.indexByte_none h1 i
    rw [List.getElem?_eq_getElem hi] at h2
    exact ⟨fun _ e => h2 (by rw [e]), fun _ => by omega, fun _ => by omega⟩
  · obtain ⟨k, hk⟩ : ∃ k : Nat, Lib.indexByte s 45 = k := ⟨_, (Int.toNat_of_nonneg h).symm⟩
    obtain ⟨h1, h2⟩ := Lib.indexByte_some hk
    refine ⟨fun _ => by omega, fun hlt e => ?_, fun he => ?_⟩
    · have := h2 i (by omega)
      rw [List.getElem?_eq_getElem hi] at this
      exact this (by rw [e])
    · obtain rfl : i = k := by omega
      rw [List.getElem?_eq_getElem hi] at h1
      exact Option.some.inj h1
theorem dash_lt (s : Bts) (h : 0 ≤ Lib.indexByte s 45) : Lib.indexByte s 45 < s.length := by
  obtain ⟨k, hk⟩ : ∃ k : Nat, Lib.indexByte s 45 = k := ⟨_, (Int.toNat_of_nonneg h).symm⟩
  obtain ⟨h1, -⟩ := Lib.indexByte_some hk
  have := (List.getElem?_eq_some_iff.1 h1).1
  omega

/-- A side of a part: what is read of it, and whether it may be. -/
def SideOf (r : Int × Bool) (n : Int) (b : Bool) : Prop := (r.2 = true ↔ (b = true ∧ 0 < n)) ∧ (r.2 = true → n = r.1)
theorem side_empty (o : Int) (ho : 0 < o) : SideOf (Co.placeV [] o) o true := by simp [SideOf, Co.placeV, ho]
theorem side_num (s : Bts) (o : Int) (hs : s ≠ []) : (∃ n, numVal s 2147483647 = .tuple #[.int .i64 n, .bool true] ∧ SideOf (Co.placeV s o) n true) ∨ (numVal s 2147483647 = .tuple #[.int .i64 0, .bool false] ∧ SideOf (Co.placeV s o) 0 false) := by
  unfold numVal SideOf Co.placeV
  rw [if_neg hs]
  show (∃ n, _) ∨ _
  cases h : Ord.number s 2147483647 with
  | none => right; simp [Co.maxNum, h]
  | some n => left; exact ⟨n, rfl, by simp [Co.maxNum, h]⟩

/-- What part hands back. -/
def PartPost (s : Bts) (w : World) (e : Ending) (w' : World) : Prop := ∃ (f t : Int) (b : Bool), e = .returned (.tuple #[.agg #[.int .i64 f, .int .i64 t], .bool b]) ∧ (b = true → Co.spanOf s = some (f, t)) ∧ (b = false → Co.spanOf s = none) ∧ Below w.heap.size w w'

/-- The two sides, put together. -/
theorem span_sides (s : Bts) (h : 0 ≤ Lib.indexByte s 45) (f t : Int) (fa tb : Bool) (hA : SideOf (Co.placeV (s.take (Lib.indexByte s 45).toNat) 1) f fa) (hB : SideOf (Co.placeV (s.drop ((Lib.indexByte s 45).toNat + 1)) 2147483647) t tb) :
    ((fa = true ∧ tb = true ∧ 1 < s.length ∧ 0 < f ∧ 0 < t ∧ f ≤ t) → Co.spanOf s = some (f, t)) ∧ (¬ (fa = true ∧ tb = true ∧ 1 < s.length ∧ 0 < f ∧ 0 < t ∧ f ≤ t) → Co.spanOf s = none) := by
  have hd : Co.dash s = (s.take (Lib.indexByte s 45).toNat, s.drop ((Lib.indexByte s 45).toNat + 1), true) := by unfold Co.dash; rw [if_pos h]
  have hlt := dash_lt s h
  have hlen : (s.take (Lib.indexByte s 45).toNat = [] ∧ s.drop ((Lib.indexByte s 45).toNat + 1) = []) ↔ s.length ≤ 1 := by
    rw [← List.length_eq_zero_iff, ← List.length_eq_zero_iff, List.length_take, List.length_drop]
    omega
  have ht : Co.toV (s.drop ((Lib.indexByte s 45).toNat + 1)) true (Co.placeV (s.take (Lib.indexByte s 45).toNat) 1).1 = Co.placeV (s.drop ((Lib.indexByte s 45).toNat + 1)) 2147483647 := rfl
  unfold Co.spanOf
  rw [hd]
  simp only
  rw [ht]
  generalize Co.placeV (s.take (Lib.indexByte s 45).toNat) 1 = A at *
  generalize Co.placeV (s.drop ((Lib.indexByte s 45).toNat + 1)) 2147483647 = B at *
  obtain ⟨a1, a2⟩ := hA
  obtain ⟨b1, b2⟩ := hB
  by_cases hl : s.length ≤ 1
  · rw [if_pos (hlen.2 hl)]
    exact ⟨fun h => by omega, fun _ => rfl⟩
  · rw [if_neg fun h => hl (hlen.1 h)]
    constructor
    · rintro ⟨h1, h2, h3, h4, h5, h6⟩
      have e1 := a1.2 ⟨h1, h4⟩
      have e2 := b1.2 ⟨h2, h5⟩
      rw [if_pos ⟨e1, e2, by rw [← a2 e1, ← b2 e2]; exact h6⟩, ← a2 e1, ← b2 e2]
    · intro hn
      rw [if_neg]
      rintro ⟨e1, e2, e3⟩
      rw [← a2 e1, ← b2 e2] at e3
      exact hn ⟨(a1.1 e1).1, (b1.1 e2).1, by omega, (a1.1 e1).2, (b1.1 e2).2, e3⟩

set_option maxRecDepth 100000 in
set_option maxHeartbeats 8000000 in
theorem rpart_any (s : Bts) (hl : s.length < 1073741824) (w : World) :
    Calls Tryz.prog 19 #[.string ⟨s.toArray⟩] w fun e w' => PartPost s w e w' := by
  obtain ⟨K, hK⟩ : ∃ K, Lib.indexByte s 45 = K := ⟨_, rfl⟩
  have hat := dash_at s
  have hklt := dash_lt s
  have hKm := Lib.indexByte_ge s 45
  rw [hK] at hat hklt hKm
  have HAT := Lib.hid hat
  have HK := Lib.hid hK
  have HKL := Lib.hid hklt
  clear hat hK hklt
  go_enter Tryz.func19, Tryz.ntmps19
  go_wp2_with fail
  obtain ⟨w1, hw1⟩ : ∃ w1, w.alloc (.cells #[.int .i64 0, .int .i64 0] 31) = w1 := ⟨_, rfl⟩
  have hb1 : Below w.heap.size w w1 := by rw [← hw1]; exact (Below.refl _ _).alloc (Nat.le_refl _) _
  have hk1 : Blk w1 w.heap.size #[.int .i64 0, .int .i64 0] 31 := by rw [← hw1]; exact Blk.new _ _ _
  rw [hw1]
  have HB1 := Lib.hid hb1
  have HK1 := Lib.hid hk1
  clear hb1 hk1 hw1
  go_loopw [4, 5] (fun x4 x5 wr => ∃ i : Nat, i ≤ s.length ∧ x5 = .int .i64 i ∧ x4 = .int .i64 (if 0 ≤ K ∧ K < i then K else -1) ∧ wr = w1) (fun _ x5 _ => s.length - (intOf x5).toNat)
  case atStart => exact ⟨0, Nat.zero_le _, rfl, by rw [if_neg (by omega)], rfl⟩
  case round =>
    obtain ⟨i, hi, rfl, rfl, rfl⟩ := hrel
    by_cases hlt : i < s.length
    · obtain ⟨a1, a2, a3⟩ := HAT.out i hlt
      obtain ⟨x, hx, i0⟩ : ∃ x, s[i] = x ∧ ∀ h, (⟨s.toArray⟩ : ByteArray)[i]'h = x := ⟨s[i], rfl, fun _ => rfl⟩
      rw [hx] at a1 a2 a3
      clear hx
      by_cases hx : x = 45
      · subst hx
        have hKi : 0 ≤ K ∧ K ≤ i := ⟨by
          rcases Int.lt_or_le K 0 with h | h
          · exact absurd rfl (a1 h)
          · exact h, by
          rcases Int.lt_or_le i K with h | h
          · exact absurd rfl (a2 h)
          · exact h⟩
        by_cases hKe : K = i
        · have e1 : (if 0 ≤ K ∧ K < (i : Int) then K else -1) = -1 := if_neg (by omega)
          have e2 : (i : Int) = if 0 ≤ K ∧ K < ((i + 1 : Nat) : Int) then K else -1 := by rw [if_pos ⟨hKi.1, by omega⟩, hKe]
          have HE := Lib.hid e2
          rw [e1]
          clear a1 a2 a3 hKi hKe e1 e2
          go_wp2_with fail
          go_roundw
          case rel => exact ⟨i + 1, by omega, by go_num, by rw [← HE.out], by first | rfl | trivial⟩
          case measure => simp [intOf]; omega
        · have e1 : (if 0 ≤ K ∧ K < (i : Int) then K else -1) = K := if_pos ⟨hKi.1, by omega⟩
          have e2 : K = if 0 ≤ K ∧ K < ((i + 1 : Nat) : Int) then K else -1 := by rw [if_pos ⟨hKi.1, by omega⟩]
          have HE := Lib.hid e2
          have e3 : decide (K < 0) = false := by simp; omega
          rw [e1]
          clear a1 a2 a3 hKi hKe e1 e2
          go_wp2_with fail
          go_roundw
          case rel => exact ⟨i + 1, by omega, by go_num, by rw [← HE.out], by first | rfl | trivial⟩
          case measure => simp [intOf]; omega
      · have hKi : ¬ K = i := fun e => hx (a3 e.symm)
        have e2 : (if 0 ≤ K ∧ K < (i : Int) then K else -1) = if 0 ≤ K ∧ K < ((i + 1 : Nat) : Int) then K else -1 := by
          by_cases h : 0 ≤ K ∧ K < (i : Int)
          · rw [if_pos h, if_pos ⟨h.1, by omega⟩]
          · rw [if_neg h, if_neg (by omega)]
        have HE := Lib.hid e2
        have hx1 : ((x.toNat : Int) == 45) = false := by simpa using u8_lit (n := 45) hx (by decide)
        generalize (if 0 ≤ K ∧ K < (i : Int) then K else -1) = at_ at *
        clear a1 a2 a3 hKi e2 hx
        go_wp2_with fail
        go_roundw
        case rel => exact ⟨i + 1, by omega, by go_num, by rw [← HE.out], by first | rfl | trivial⟩
        case measure => simp [intOf]; omega
    · obtain rfl : i = s.length := by omega
      have c0 := HK1.out.cell 0 (v := .int .i64 0) rfl
      have c1 := HK1.out.cell 1 (v := .int .i64 0) rfl
      have f0 := HK1.out.free 0
      have f1 := HK1.out.free 1
      rcases Int.lt_or_le K 0 with hK0 | hK0
      · have e1 : (if 0 ≤ K ∧ K < (s.length : Int) then K else -1) = -1 := if_neg (by omega)
        rw [e1]
        have hsp := Co.span_no s (by rw [HK.out]; exact hK0)
        have hnum := rnum_any s hl wr
        have FIN : ∀ n : Int, Below w.heap.size w ((wr.setCell ⟨w.heap.size, 0, none⟩ (.int .i64 n)).setCell ⟨w.heap.size, 1, none⟩ (.int .i64 n)) ∧ ((wr.setCell ⟨w.heap.size, 0, none⟩ (.int .i64 n)).setCell ⟨w.heap.size, 1, none⟩ (.int .i64 n)).cell? ⟨w.heap.size, 0, none⟩ = some (.int .i64 n) ∧ ((wr.setCell ⟨w.heap.size, 0, none⟩ (.int .i64 n)).setCell ⟨w.heap.size, 1, none⟩ (.int .i64 n)).cell? ⟨w.heap.size, 1, none⟩ = some (.int .i64 n) := fun n =>
          ⟨(HB1.out.setCell (p := ⟨w.heap.size, 0, none⟩) (Nat.le_refl _) _).setCell (p := ⟨w.heap.size, 1, none⟩) (Nat.le_refl _) _, ((HK1.out.set 0 (.int .i64 n)).set 1 (.int .i64 n)).cell 0 rfl, ((HK1.out.set 0 (.int .i64 n)).set 1 (.int .i64 n)).cell 1 rfl⟩
        have HF := Lib.hid FIN
        cases hN : Ord.number s 2147483647 with
        | none =>
          have hv : numVal s 2147483647 = .tuple #[.int .i64 0, .bool false] := by unfold numVal; rw [hN]
          rw [hv] at hnum
          have hs : Co.spanOf s = none := by rw [hsp, show Ord.number s Co.maxNum = none from hN]
          have HS := Lib.hid hs
          clear hv hN hs hsp FIN e1
          go_wp2_with fail
          refine hnum.mono ?_
          rintro e w4 ⟨rfl, rfl⟩
          clear hnum
          go_wp2_with fail
          obtain ⟨b3, r0, r1⟩ := HF.out 0
          refine bodyPost_ret (v := .tuple #[.agg #[.int .i64 0, .int .i64 0], .bool false]) ?_ rfl ⟨0, 0, false, rfl, (fun h => by cases h), fun _ => HS.out, b3⟩
          simp [results, Tryz.results19, go_sem, r0, r1]
        | some n =>
          have hv : numVal s 2147483647 = .tuple #[.int .i64 n, .bool true] := by unfold numVal; rw [hN]
          rw [hv] at hnum
          have hs : Co.spanOf s = if 0 < n then some (n, n) else none := by rw [hsp, show Ord.number s Co.maxNum = some n from hN]
          have HS := Lib.hid hs
          obtain ⟨bb, hbb⟩ : ∃ bb, decide (0 < n) = bb := ⟨_, rfl⟩
          have HBB := Lib.hid hbb
          clear hv hN hs hsp FIN e1
          go_wp2_with fail
          refine hnum.mono ?_
          rintro e w4 ⟨rfl, rfl⟩
          clear hnum
          go_wp2_with fail
          obtain ⟨b3, r0, r1⟩ := HF.out n
          refine bodyPost_ret (v := .tuple #[.agg #[.int .i64 n, .int .i64 n], .bool bb]) ?_ rfl ⟨n, n, bb, rfl, (fun h => by rw [HS.out, if_pos (of_decide_eq_true (HBB.out.trans h))]), (fun h => by rw [HS.out, if_neg (of_decide_eq_false (HBB.out.trans h))]), b3⟩
          simp [results, Tryz.results19, go_sem, r0, r1]
      · have hKlt := HKL.out hK0
        have e1 : (if 0 ≤ K ∧ K < (s.length : Int) then K else -1) = K := if_pos ⟨hK0, hKlt⟩
        rw [e1]
        obtain ⟨k, rfl⟩ : ∃ k : Nat, K = k := ⟨_, (Int.toNat_of_nonneg hK0).symm⟩
        have hsides := span_sides s (by rw [HK.out]; exact hK0)
        rw [HK.out, Int.toNat_natCast] at hsides
        have hkl : k < s.length := by omega
        have HSD := Lib.hid hsides
        have HR0 : Hid (Blk wr w.heap.size #[.int .i64 0, .int .i64 0] 31) := HK1
        clear hsides e1 hKlt c0 c1 f0 f1
        go_upto_if 47 with fail
        obtain ⟨w2, hw2⟩ : ∃ w2, wr.alloc (.cells #[.int .i64 1, .int .i64 2147483647] 31) = w2 := ⟨_, rfl⟩
        have hb2 : Below w.heap.size w w2 := by rw [← hw2]; exact HB1.out.alloc HB1.out.size _
        have hx2 : Blk w2 wr.heap.size #[.int .i64 1, .int .i64 2147483647] 31 := by rw [← hw2]; exact Blk.new _ _ _
        have hr2 : Blk w2 w.heap.size #[.int .i64 0, .int .i64 0] 31 := by rw [← hw2]; exact HR0.out.alloc _
        have hBn : w.heap.size ≠ wr.heap.size := by have := HR0.out.lt; omega
        have hBn2 : w.heap.size ≤ wr.heap.size := HB1.out.size
        rw [hw2]
        have HB2 := Lib.hid hb2
        have HX2 := Lib.hid hx2
        have HR2 := Lib.hid hr2
        generalize wr.heap.size = bx at *
        clear hb2 hx2 hr2 hw2
        go_cut [9, 11, 12, 47, 48, 49, 50, 51, 52, 53, 54, 55, 56, 57] (fun x9 _ _ _ _ _ _ _ _ _ _ _ _ _ wc => ∃ (f : Int) (fa : Bool), x9 = .bool fa ∧ Hid (SideOf (Co.placeV (s.take k) 1) f fa) ∧ Hid (Blk wc bx #[.int .i64 f, .int .i64 2147483647] 31) ∧ Hid (Below w.heap.size w wc) ∧ Hid (Blk wc w.heap.size #[.int .i64 0, .int .i64 0] 31))
        case first =>
          by_cases hk : k = 0
          · subst hk
            go_wp2_with fail
            go_meet
            exact ⟨1, true, rfl, Lib.hid (by rw [List.take_zero]; exact side_empty 1 (by decide)), HX2, HB2, HR2⟩
          · have hne : s.take k ≠ [] := fun e => by
              have := congrArg List.length e
              rw [List.length_take, List.length_nil] at this
              omega
            have hnum := rnum_any (s.take k) (by rw [List.length_take]; omega) w2
            rw [← extract_take] at hnum
            have g1 : decide ((0 : Int) < k) = true := by simp; omega
            have g2 : (k : Int) ≤ s.length := by omega
            have g3 : (0 : Int) ≤ k := by omega
            have x0 := HX2.out.cell 0 (v := .int .i64 1) rfl
            have xf := HX2.out.free 0
            rcases side_num (s.take k) 1 hne with ⟨n, hv, hs⟩ | ⟨hv, hs⟩
            · rw [hv] at hnum
              have HS := Lib.hid hs
              clear hv hs hne
              go_wp2_with fail
              refine hnum.mono ?_
              rintro e w4 ⟨rfl, rfl⟩
              clear hnum
              go_wp2_with fail
              go_meet
              exact ⟨n, true, rfl, HS, Lib.hid (HX2.out.set 0 _), Lib.hid (HB2.out.setCell (p := ⟨bx, 0, none⟩) hBn2 _), Lib.hid (HR2.out.setOther (by exact hBn) _)⟩
            · rw [hv] at hnum
              have HS := Lib.hid hs
              clear hv hs hne
              go_wp2_with fail
              refine hnum.mono ?_
              rintro e w4 ⟨rfl, rfl⟩
              clear hnum
              go_wp2_with fail
              go_meet
              exact ⟨0, false, rfl, HS, Lib.hid (HX2.out.set 0 _), Lib.hid (HB2.out.setCell (p := ⟨bx, 0, none⟩) hBn2 _), Lib.hid (HR2.out.setOther (by exact hBn) _)⟩
        case rest =>
          obtain ⟨w3, hw3⟩ : ∃ w3, w3 = wc := ⟨_, rfl⟩
          subst hw3
          obtain ⟨f, fa, rfl, HSA, HX3, HB3, HR3⟩ := hcut
          clear HX2 HB2 HR2
          have q1 : IntKind.i64.wrap ((s.length : Int) - 1) = (s.length : Int) - 1 := by simp [IntKind.wrap_i64]; omega
          have q2 : wrap64 ((s.length : Int) - 1) = (s.length : Int) - 1 := by simp [wrap64]; omega
          go_upto_if 62 with fail
          go_cut [10, 13, 14, 58, 59, 60, 61, 62, 63, 64, 65, 66, 67, 68, 69, 70, 71, 72, 73] (fun x10 _ _ _ _ _ _ _ _ _ _ _ _ _ _ _ _ _ _ wc => ∃ (t : Int) (tb : Bool), x10 = .bool tb ∧ Hid (SideOf (Co.placeV (s.drop (k + 1)) 2147483647) t tb) ∧ Hid (Blk wc bx #[.int .i64 f, .int .i64 t] 31) ∧ Hid (Below w.heap.size w wc) ∧ Hid (Blk wc w.heap.size #[.int .i64 0, .int .i64 0] 31))
          case first =>
            by_cases hk : k + 1 = s.length
            · have g1 : decide ((k : Int) < (s.length : Int) - 1) = false := by simp; omega
              go_wp2_with fail
              go_meet
              exact ⟨2147483647, true, rfl, Lib.hid (by rw [List.drop_of_length_le (by omega)]; exact side_empty 2147483647 (by decide)), HX3, HB3, HR3⟩
            · have hne : s.drop (k + 1) ≠ [] := fun e => by
                have := congrArg List.length e
                rw [List.length_drop, List.length_nil] at this
                omega
              have hnum := rnum_any (s.drop (k + 1)) (by rw [List.length_drop]; omega) w3
              rw [← extract_drop] at hnum
              have g1 : decide ((k : Int) < (s.length : Int) - 1) = true := by simp; omega
              have g2 : (k : Int) + 1 ≤ s.length := by omega
              have g3 : (0 : Int) ≤ (k : Int) + 1 := by omega
              have g4 : wrap64 ((k : Int) + 1) = (k : Int) + 1 := by simp [wrap64]; omega
              have x0 := HX3.out.cell 1 (v := .int .i64 2147483647) rfl
              have xf := HX3.out.free 1
              rcases side_num (s.drop (k + 1)) 2147483647 hne with ⟨n, hv, hs⟩ | ⟨hv, hs⟩
              · rw [hv] at hnum
                have HS := Lib.hid hs
                clear hv hs hne
                go_wp2_with fail
                refine hnum.mono ?_
                rintro e w4 ⟨rfl, rfl⟩
                clear hnum
                go_wp2_with fail
                go_meet
                exact ⟨n, true, rfl, HS, Lib.hid (HX3.out.set 1 _), Lib.hid (HB3.out.setCell (p := ⟨bx, 1, none⟩) hBn2 _), Lib.hid (HR3.out.setOther (by exact hBn) _)⟩
              · rw [hv] at hnum
                have HS := Lib.hid hs
                clear hv hs hne
                go_wp2_with fail
                refine hnum.mono ?_
                rintro e w4 ⟨rfl, rfl⟩
                clear hnum
                go_wp2_with fail
                go_meet
                exact ⟨0, false, rfl, HS, Lib.hid (HX3.out.set 1 _), Lib.hid (HB3.out.setCell (p := ⟨bx, 1, none⟩) hBn2 _), Lib.hid (HR3.out.setOther (by exact hBn) _)⟩
          case rest =>
            obtain ⟨w4, hw4⟩ : ∃ w4, w4 = wc := ⟨_, rfl⟩
            subst hw4
            obtain ⟨t, tb, rfl, HSB, HX4, HB4, HR4⟩ := hcut
            clear HX3 HB3 HR3
            obtain ⟨hs1, hs2⟩ := HSD.out f t fa tb HSA.out HSB.out
            have HS1 := Lib.hid hs1
            have HS2 := Lib.hid hs2
            clear hs1 hs2
            have x0 := HX4.out.cell 0 (v := .int .i64 f) rfl
            have x1 := HX4.out.cell 1 (v := .int .i64 t) rfl
            have y0 := HX4.out.drew.cell 0 (v := .int .i64 f) rfl
            have y1 := HX4.out.drew.cell 1 (v := .int .i64 t) rfl
            have r0 := HR4.out.cell 0 (v := .int .i64 0) rfl
            have r1 := HR4.out.cell 1 (v := .int .i64 0) rfl
            have f0 := HR4.out.free 0
            have f1 := HR4.out.free 1
            have q0 := HR4.out.drew.cell 0 (v := .int .i64 0) rfl
            have q1 := HR4.out.drew.cell 1 (v := .int .i64 0) rfl
            have e0 := HR4.out.drew.free 0
            have e1 := HR4.out.drew.free 1
            have HF := Lib.hid (show Below w.heap.size w ((w4.setCell ⟨w.heap.size, 0, none⟩ (.int .i64 f)).setCell ⟨w.heap.size, 1, none⟩ (.int .i64 t)).drew ∧ (w4.setCell ⟨w.heap.size, 0, none⟩ (.int .i64 f)).cell? ⟨w.heap.size, 0, none⟩ = some (.int .i64 f) ∧ ((w4.setCell ⟨w.heap.size, 0, none⟩ (.int .i64 f)).setCell ⟨w.heap.size, 1, none⟩ (.int .i64 t)).cell? ⟨w.heap.size, 1, none⟩ = some (.int .i64 t) from
              ⟨((HB4.out.setCell (p := ⟨w.heap.size, 0, none⟩) (Nat.le_refl _) _).setCell (p := ⟨w.heap.size, 1, none⟩) (Nat.le_refl _) _).drew, (HR4.out.set 0 (.int .i64 f)).cell 0 rfl, ((HR4.out.set 0 (.int .i64 f)).set 1 (.int .i64 t)).cell 1 rfl⟩)
            clear HSD HSA HSB HX4 HB4 HR4
            cases fa with
            | false =>
              go_wp2_with fail
              go_region
              go_wp2_with fail
              obtain ⟨b3, z0, z1⟩ := HF.out
              refine bodyPost_ret (v := .tuple #[.agg #[.int .i64 f, .int .i64 t], .bool false]) ?_ rfl ⟨f, t, false, rfl, (fun h => by cases h), (fun _ => HS2.out (fun h => by cases h.1)), b3⟩
              simp [results, Tryz.results19, go_sem, z0, z1]
            | true =>
              cases tb with
              | false =>
                go_wp2_with fail
                go_region
                go_wp2_with fail
                obtain ⟨b3, z0, z1⟩ := HF.out
                refine bodyPost_ret (v := .tuple #[.agg #[.int .i64 f, .int .i64 t], .bool false]) ?_ rfl ⟨f, t, false, rfl, (fun h => by cases h), (fun _ => HS2.out (fun h => by cases h.2.1)), b3⟩
                simp [results, Tryz.results19, go_sem, z0, z1]
              | true =>
                by_cases l0 : 1 < s.length
                rotate_left
                · have d0 : decide ((1 : Int) < s.length) = false := by simp; omega
                  have L0 := Lib.hid l0
                  clear l0
                  go_wp2_with fail
                  go_region
                  go_wp2_with fail
                  obtain ⟨b3, z0, z1⟩ := HF.out
                  refine bodyPost_ret (v := .tuple #[.agg #[.int .i64 f, .int .i64 t], .bool false]) ?_ rfl ⟨f, t, false, rfl, (fun h => by cases h), (fun _ => HS2.out (fun h => by have h1 := h.2.2.1; have := L0.out; omega)), b3⟩
                  simp [results, Tryz.results19, go_sem, z0, z1]
                have d0 : decide ((1 : Int) < s.length) = true := by simp; omega
                have L0 := Lib.hid l0
                clear l0
                by_cases l1 : 0 < f
                rotate_left
                · have d1 : decide (0 < f) = false := by simp; omega
                  have L1 := Lib.hid l1
                  clear l1
                  go_wp2_with fail
                  go_region
                  go_wp2_with fail
                  obtain ⟨b3, z0, z1⟩ := HF.out
                  refine bodyPost_ret (v := .tuple #[.agg #[.int .i64 f, .int .i64 t], .bool false]) ?_ rfl ⟨f, t, false, rfl, (fun h => by cases h), (fun _ => HS2.out (fun h => by have h1 := h.2.2.2.1; have := L1.out; omega)), b3⟩
                  simp [results, Tryz.results19, go_sem, z0, z1]
                have d1 : decide (0 < f) = true := by simp; omega
                have L1 := Lib.hid l1
                clear l1
                by_cases l2 : 0 < t
                rotate_left
                · have d2 : decide (0 < t) = false := by simp; omega
                  have L2 := Lib.hid l2
                  clear l2
                  go_wp2_with fail
                  go_region
                  go_wp2_with fail
                  obtain ⟨b3, z0, z1⟩ := HF.out
                  refine bodyPost_ret (v := .tuple #[.agg #[.int .i64 f, .int .i64 t], .bool false]) ?_ rfl ⟨f, t, false, rfl, (fun h => by cases h), (fun _ => HS2.out (fun h => by have h1 := h.2.2.2.2.1; have := L2.out; omega)), b3⟩
                  simp [results, Tryz.results19, go_sem, z0, z1]
                have d2 : decide (0 < t) = true := by simp; omega
                have L2 := Lib.hid l2
                clear l2
                by_cases l3 : f ≤ t
                rotate_left
                · have d3 : decide (f ≤ t) = false := by simp; omega
                  have L3 := Lib.hid l3
                  clear l3
                  go_wp2_with fail
                  go_region
                  go_wp2_with fail
                  obtain ⟨b3, z0, z1⟩ := HF.out
                  refine bodyPost_ret (v := .tuple #[.agg #[.int .i64 f, .int .i64 t], .bool false]) ?_ rfl ⟨f, t, false, rfl, (fun h => by cases h), (fun _ => HS2.out (fun h => by have h1 := h.2.2.2.2.2; have := L3.out; omega)), b3⟩
                  simp [results, Tryz.results19, go_sem, z0, z1]
                have d3 : decide (f ≤ t) = true := by simp; omega
                have L3 := Lib.hid l3
                clear l3
                go_wp2_with fail
                go_region
                go_wp2_with fail
                obtain ⟨b3, z0, z1⟩ := HF.out
                refine bodyPost_ret (v := .tuple #[.agg #[.int .i64 f, .int .i64 t], .bool true]) ?_ rfl ⟨f, t, true, rfl, (fun _ => HS1.out ⟨by first | rfl | trivial, by first | rfl | trivial, L0.out, L1.out, L2.out, L3.out⟩), (fun h => by cases h), b3⟩
                simp [results, Tryz.results19, go_sem, z0, z1]

end Go.Proofs.YtjdcjdclipbjhaaGreatDoor

/-
  The walk of the document's List. Condition: lengths.
-/
namespace Go.Proofs.YtjdcjdclipbjhaaGreatDoor
open Go.RowKit Go.Shelf Go.Maps

theorem info_span31 : (Tryz.prog.info? 31).map (fun i => (i.zero, i.size, i.bytes)) = some (some (.agg #[.int .i64 0, .int .i64 0]), 2, 16) := by kernel_rfl

set_option maxRecDepth 100000 in
set_option maxHeartbeats 8000000 in
theorem rlist_any (s : Bts) (hl : s.length < 1073741824) (w : World) :
    Calls Tryz.prog 8 #[.string ⟨s.toArray⟩] w fun e w' => ListPost 31 (Co.listOf s) w e w' := by
  obtain ⟨R, hR⟩ : ∃ R, Co.listOf s = R := ⟨_, rfl⟩
  rw [hR]
  obtain ⟨i0, hi, hz0, hz1, hz2⟩ := info_parts info_span31
  go_enter Tryz.func8, Tryz.ntmps8
  go_wp2_with fail
  go_loopw [4, 5, 6, 7, 8] (fun x4 x5 x6 _x7 _x8 wr => ∃ (k a : Nat) (out : List Co.Spn), k ≤ s.length + 1 ∧ a ≤ k ∧ out.length ≤ k ∧ x6 = .int .i64 k ∧ x5 = .int .i64 a ∧ Hid (SpansOwn 31 wr w.heap.size x4 out) ∧ Hid (Below w.heap.size w wr) ∧ Hid (∀ j, a ≤ j → j < k → Wi.sepB (s.getD j 0) = false) ∧ Hid (k ≤ s.length → Co.listGo out (Wi.partsBy Wi.sepB (s.drop a)) = R) ∧ Hid (k = s.length + 1 → some out = R)) (fun _ _ x6 _ _ _ => s.length + 1 - (intOf x6).toNat)
  case atStart => exact ⟨0, 0, [], Nat.zero_le _, Nat.le_refl _, Nat.le_refl _, rfl, rfl, Lib.hid (World.ownsRow_nil _ _ _ _), Lib.hid (Below.refl _ _), Lib.hid (fun j _ h => by omega), Lib.hid (fun _ => by rw [List.drop_zero]; exact hR), Lib.hid (fun h => by omega)⟩
  case round =>
    obtain ⟨k, a, out, hk, hak, hok, rfl, rfl, HO, HB, HN, HR1, HR2⟩ := hrel
    obtain ⟨p, c, rfl⟩ := own_shape HO.out
    by_cases hend : k = s.length + 1
    · have hR3 := HR2.out hend
      have HR3 := Lib.hid hR3
      have e1 : decide ((k : Int) ≤ s.length) = false := by simp; omega
      have e2 : decide (k ≤ s.length) = false := by simp; omega
      clear hR3 hR
      go_wp2_with fail
      go_ret2
      exact ⟨HB.out, .inr ⟨out, _, HR3.out.symm, rfl, HO.out⟩⟩
    · have hkl : k ≤ s.length := by omega
      have e1 : decide ((k : Int) ≤ s.length) = true := by simp; omega
      have e2 : decide (k ≤ s.length) = true := by simp; omega
      obtain ⟨bb, hbb⟩ : ∃ bb, (decide (k < s.length) && !Wi.sepB (s.getD k 0)) = bb := ⟨_, rfl⟩
      have HBB := Lib.hid hbb
      clear hR
      go_upto_region 6 with fail
      go_cut [15, 16, 17, 18, 19, 20, 21, 22, 23, 24, 25, 26, 27, 28, 29, 30, 31, 32, 33, 34, 35, 36] (fun _ _ _ _ _ _ _ _ _ _ _ _ _ _ _ _ _ _ _ _ _ x36 wx => x36 = .bool bb ∧ wx = wr)
      case first =>
        by_cases hlt : k < s.length
        · have g1 : decide ((k : Int) < s.length) = true := by simp; omega
          have g2 : (0 : Int) ≤ k := by omega
          have g3 : (k : Int) < s.length := by omega
          have hgd : s.getD k 0 = s[k] := by rw [List.getD_eq_getElem?_getD, List.getElem?_eq_getElem hlt]; rfl
          rw [decide_eq_true hlt, Bool.true_and, hgd] at hbb
          obtain ⟨x, hx, i0⟩ : ∃ x, s[k] = x ∧ ∀ h, (⟨s.toArray⟩ : ByteArray)[k]'h = x := ⟨s[k], rfl, fun _ => rfl⟩
          rw [hx] at hbb
          clear hx hgd
          by_cases x1 : x = 44
          · subst x1
            have : bb = false := by rw [← hbb]; rfl
            subst this
            clear hbb
            go_wp2_with fail
            go_meet
            exact ⟨rfl, rfl⟩
          · by_cases x2 : x = 32
            · subst x2
              have : bb = false := by rw [← hbb]; rfl
              subst this
              clear hbb x1
              go_wp2_with fail
              go_meet
              exact ⟨rfl, rfl⟩
            · by_cases x3 : x = 9
              · subst x3
                have : bb = false := by rw [← hbb]; rfl
                subst this
                clear hbb x1 x2
                go_wp2_with fail
                go_meet
                exact ⟨rfl, rfl⟩
              · have : bb = true := by rw [← hbb]; simp [Wi.sepB, x1, x2, x3]
                subst this
                have y1 : ((x.toNat : Int) != 44) = true := by simpa using u8_lit (n := 44) x1 (by decide)
                have y2 : ((x.toNat : Int) != 32) = true := by simpa using u8_lit (n := 32) x2 (by decide)
                have y3 : ((x.toNat : Int) != 9) = true := by simpa using u8_lit (n := 9) x3 (by decide)
                clear hbb x1 x2 x3
                go_wp2_with fail
                go_meet
                exact ⟨rfl, rfl⟩
        · have g1 : decide ((k : Int) < s.length) = false := by simp; omega
          have g2 : decide (k < s.length) = false := by simp; omega
          have : bb = false := by rw [← hbb, g2]; rfl
          subst this
          clear hbb
          go_wp2_with fail
          go_meet
          exact ⟨rfl, rfl⟩
      case rest =>
        obtain ⟨rfl, rfl⟩ := hcut
        clear hbb
        cases bb with
        | true =>
          have hlt : k < s.length := by
            have := HBB.out
            simp only [Bool.and_eq_true, decide_eq_true_eq] at this
            exact this.1
          have hsf : Wi.sepB (s.getD k 0) = false := by
            have := HBB.out
            simp only [Bool.and_eq_true, Bool.not_eq_true'] at this
            exact this.2
          have HSF := Lib.hid hsf
          clear hsf
          go_wp2_with fail
          go_roundw
          case rel => exact ⟨k + 1, a, out, by omega, by omega, by omega, by go_num, rfl, HO, HB, Lib.hid (fun j h1 h2 => by
            rcases Nat.lt_or_ge j k with h3 | h3
            · exact HN.out j h1 h3
            · have : j = k := by omega
              rw [this]; exact HSF.out), Lib.hid (fun _ => HR1.out hkl), Lib.hid (fun h => by omega)⟩
          case measure => simp [intOf]; omega
        | false =>
          obtain ⟨P, hP⟩ : ∃ P, (s.drop a).take (k - a) = P := ⟨_, rfl⟩
          obtain ⟨Q, hQ1, hQ2, hQ3⟩ : ∃ Q, Wi.partsBy Wi.sepB (s.drop a) = P :: Q ∧ (k < s.length → Q = Wi.partsBy Wi.sepB (s.drop (k + 1))) ∧ (k = s.length → Q = []) := by
            by_cases hlt : k < s.length
            · have hs : Wi.sepB (s.getD k 0) = true := by
                have := HBB.out
                rw [decide_eq_true hlt, Bool.true_and] at this
                simpa using this
              exact ⟨_, by rw [← hP]; exact Wi.stops_at s a k hak hlt HN.out hs, fun _ => rfl, fun h => by omega⟩
            · refine ⟨[], ?_, fun h => absurd h hlt, fun _ => rfl⟩
              rw [← hP, Wi.stops_end s a fun j h1 h2 => HN.out j h1 (by omega), List.take_of_length_le (by rw [List.length_drop]; omega)]
          have hgo := HR1.out hkl
          rw [hQ1] at hgo
          have HGO := Lib.hid hgo
          have HQ := Lib.hid (And.intro hQ2 hQ3)
          have hPl : P.length < 1073741824 := by rw [← hP, List.length_take, List.length_drop]; omega
          have hpart := rpart_any P hPl wc
          have hex : (⟨s.toArray⟩ : ByteArray).extract a k = ⟨P.toArray⟩ := by rw [extract_mid, hP]
          rw [← hex] at hpart
          have f1 : (0 : Int) ≤ a := by omega
          have f2 : (a : Int) ≤ k := by omega
          have f3 : (k : Int) ≤ s.length := by omega
          have HEX := Lib.hid hex
          clear hgo hQ1 hQ2 hQ3 hP hPl hex
          go_wp2_with fail
          refine hpart.mono ?_
          rintro e w3 ⟨f, t, b, rfl, hT, hF, hb3⟩
          have HB3 := Lib.hid (HB.out.trans (hb3.mono HB.out.size))
          have HO3 := Lib.hid (row_keep HO.out hb3)
          clear hpart
          cases b with
          | false =>
            have hR4 : R = none := by rw [← HGO.out]; exact Co.listGo_bad _ _ _ (hF rfl)
            have HR4 := Lib.hid hR4
            have HB4 := Lib.hid ((HB3.out).alloc HB3.out.size (.cells #[.int .i64 f, .int .i64 t] 31))
            clear hT hF hb3 hR4
            go_wp2_with fail
            go_ret2
            exact ⟨HB4.out, .inl ⟨HR4.out, rfl⟩⟩
          | true =>
            have hgood : Co.listGo (out ++ [(f, t)]) Q = R := by rw [← HGO.out, Co.listGo_good _ _ _ _ (hT rfl)]
            have HGOOD := Lib.hid hgood
            clear hT hF hb3 hgood
            go_upto_region 10 with fail
            obtain ⟨w4, hw4⟩ : ∃ w4, w3.alloc (.cells #[.int .i64 f, .int .i64 t] 31) = w4 := ⟨_, rfl⟩
            have HB4 := Lib.hid (show Below w.heap.size w w4 by rw [← hw4]; exact HB3.out.alloc HB3.out.size _)
            have HO4 := Lib.hid (show w4.ownsRow w.heap.size 31 2 (.slice p out.length c) out.length (spanVals out) by rw [← hw4]; exact HO3.out.alloc _)
            have hk4 : Blk w4 w3.heap.size #[.int .i64 f, .int .i64 t] 31 := by rw [← hw4]; exact Blk.new _ _ _
            have c0 := hk4.cell 0 (v := .int .i64 f) rfl
            have c1 := hk4.cell 1 (v := .int .i64 t) rfl
            rw [hw4]
            generalize w3.heap.size = bx at *
            clear hk4 hw4 HB3 HO3
            go_wp2_with (at_builtin; refine wpList_append_own _ rfl _ _ 26 rfl w.heap.size 31 i0 (.agg #[.int .i64 0, .int .i64 0]) 2 16 Tryz.underlying26 hi hz0 hz1 hz2 rfl (by decide) _ _ _ rfl (HO4.out.alloc _) ⟨w4.heap.size, 0, none⟩ 1 1 [.int .i64 f, .int .i64 t] rfl rfl (cells_new _ #[_, _] _) (by simp [Value.oneCell']) (by unfold maxLen; first | omega | (simp <;> omega)) (by first | omega | (simp <;> omega)) (by have := HB4.out.size; simp <;> omega) ?_; intro v' w5 hown' hgrow _)
            obtain ⟨hown5, hb5⟩ := span_push (w := w) HO4.out HB4.out HB4.out.size hown' hgrow
            go_roundw
            case rel => exact ⟨k + 1, k + 1, out ++ [(f, t)], by omega, Nat.le_refl _, by simp; omega, by go_num, by go_num, Lib.hid hown5, Lib.hid hb5, Lib.hid (fun j h1 h2 => by omega), Lib.hid (fun h => by have := HGOOD.out; rw [HQ.out.1 (by omega)] at this; exact this), Lib.hid (fun h => by have := HGOOD.out; rw [HQ.out.2 (by omega)] at this; exact this)⟩
            case measure => simp [intOf]; omega

end Go.Proofs.YtjdcjdclipbjhaaGreatDoor
