/-
  Texts of this seat put together: C4, OptSpec, O1, S8, M1.
-/
import Derived.Test.YtjdcjdclipbjhaaGreatDoorQ6
import Derived.Test.YtjdcjdclipbjhaaGreatDoorQ14
import Derived.Lib.Small
import Derived.Test.YtjdcjdclipbjhaaGreatDoorQ3
import Derived.Maps.OwnSet
import Derived.Tactics
import Derived.Tactics2
import Derived.Defers
import Derived.Recover
import Derived.Laws.Pointers
import Derived.Laws.EntriesVeiled

/-
  The walk of cols' List. Conditions: lengths; what the library's variables hold.
-/
namespace Go.Proofs.YtjdcjdclipbjhaaGreatDoor
open Go.RowKit Go.Shelf Go.Maps

theorem split_parts (s : Bts) : Lib.splitB ⟨#[44]⟩ 0 (Lib.countB ⟨(s.map Rp.rep).toArray⟩ ⟨#[44]⟩) ⟨(s.map Rp.rep).toArray⟩ = (Wi.partsBy Wi.sepB s).map fun l => (⟨l.toArray⟩ : ByteArray) := by
  have h := Wi.splitB_parts 44 _ ⟨(s.map Rp.rep).toArray⟩ (Nat.le_refl _)
  have h2 := Wi.partsBy_map Rp.rep (fun _ => rfl) s
  rw [List.toList_toArray, h2] at h
  rw [← h, List.map_map]
  conv => lhs; rw [← List.map_id (Lib.splitB _ _ _ _)]
  rfl

theorem info_str9 : (Tryz.prog.info? 9).map (fun i => (i.zero, i.size, i.bytes)) = some (some (.string ByteArray.empty), 1, 16) := by kernel_rfl
theorem info_span30 : (Tryz.prog.info? 30).map (fun i => (i.zero, i.size, i.bytes)) = some (some (.agg #[.int .i64 0, .int .i64 0]), 2, 16) := by kernel_rfl

theorem row_not {w : World} {r : Nat} {cs : Array Value} {t : TypeId} {v : Value} {B n : Nat} {xs : List Value} (h : Blk w r cs t) (ho : w.ownsRow B 9 1 v n xs) (ht : t ≠ 9) (hv : v.ownBlock = some r) : False := by
  rcases ho.2 with ⟨h1, -⟩ | ⟨g, cap, cur, e, -, hb, -⟩
  · rw [h1] at hv; cases hv
  · rw [e] at hv
    have hg : g = r := by simpa [Value.ownBlock] using hv
    rw [hg] at hb
    have := h.symm.trans hb
    simp at this
    exact ht this.2

set_option maxRecDepth 100000 in
set_option maxHeartbeats 1600000 in
theorem splitStops_any (s : Bts) (hl : s.length < 1073741824) (w : World) (hg : Glo w) :
    Calls Tryz.prog 14 #[.string ⟨(s.map Rp.rep).toArray⟩, .string ⟨#[44]⟩] w fun e w' => e = .returned (.slice (some ⟨w.heap.size, 0, none⟩) (Wi.partsBy Wi.sepB s).length (Wi.partsBy Wi.sepB s).length) ∧ (∀ k, k < (Wi.partsBy Wi.sepB s).length → w'.cell? ⟨w.heap.size, k, none⟩ = some (.string ⟨((Wi.partsBy Wi.sepB s).getD k []).toArray⟩)) ∧ Below w.heap.size w w' ∧ w.heap.size < w'.heap.size := by
  obtain ⟨m, hm⟩ := hg.mx
  refine (Any.strings_Split Tryz.lays146 info_str9 ⟨(s.map Rp.rep).toArray⟩ ⟨#[44]⟩ m w (by simp [ByteArray.size]; omega) hm (by decide)).mono ?_
  rintro e w' ⟨rfl, rfl⟩
  have hn : Lib.countB ⟨(s.map Rp.rep).toArray⟩ ⟨#[44]⟩ + 1 = (Wi.partsBy Wi.sepB s).length := by
    have := congrArg List.length (split_parts s)
    rw [Lib.splitB_all _ (by decide) 0 _ _ rfl, List.length_map] at this
    exact this
  rw [split_parts, hn]
  refine ⟨rfl, fun k hk => ?_, (Below.refl _ _).alloc (Nat.le_refl _) _, by simp⟩
  refine (Blk.new w _ _).cell k ?_
  rw [List.getElem?_toArray, List.getElem?_map, List.getElem?_map, List.getElem?_eq_getElem hk]
  simp [List.getD_eq_getElem?_getD, hk]

set_option maxRecDepth 100000 in
theorem dash_any (p : Bts) (hl : p.length < 1073741824) (w : World) (hg : Glo w) :
    Calls Tryz.prog 17 #[.string ⟨p.toArray⟩, .string ⟨#[45]⟩] w fun e w' => e = .returned (.tuple #[.string ⟨(Co.dash p).1.toArray⟩, .string ⟨(Co.dash p).2.1.toArray⟩, .bool (Co.dash p).2.2]) ∧ Below w.heap.size w w' := by
  obtain ⟨m, hm⟩ := hg.mx
  refine (Any.strings_Cut Tryz.lays145 ⟨p.toArray⟩ ⟨#[45]⟩ m w (by simp [ByteArray.size]; omega) hm).mono ?_
  rintro e w' ⟨rfl, n, rfl⟩
  have h : Lib.cut (⟨p.toArray⟩ : ByteArray).data.toList (⟨#[45]⟩ : ByteArray).data.toList = Co.dash p := Co.cut_dash p
  rw [h]
  exact ⟨rfl, below_drewN _ _⟩

/-- A part, in the order that List asks. -/
theorem span_parts (p a b : List UInt8) (d : Bool) (f t : Int) (ok g : Bool) (hd : Co.dash p = (a, b, d)) (hp : Co.placeV a 1 = (f, ok)) (ht : Co.toV b d f = (t, g)) :
    (a.isEmpty = true → b.isEmpty = true → Co.spanOf p = none) ∧ (¬ (a.isEmpty = true ∧ b.isEmpty = true) → ok = true → g = true → f ≤ t → Co.spanOf p = some (f, t)) ∧ (¬ (ok = true ∧ g = true ∧ f ≤ t) → Co.spanOf p = none) := by
  unfold Co.spanOf
  rw [hd]
  simp only
  rw [hp]
  simp only
  rw [ht]
  simp only [List.isEmpty_iff]
  refine ⟨fun h1 h2 => if_pos ⟨h1, h2⟩, fun h1 h2 h3 h4 => ?_, fun h1 => ?_⟩
  · rw [if_neg h1, if_pos ⟨h2, h3, h4⟩]
  · split
    · rfl
    · first | rfl | rw [if_neg h1]

set_option maxRecDepth 100000 in
set_option maxHeartbeats 8000000 in
theorem list_any (s : Bts) (hl : s.length < 1073741824) (w : World) (hg : Glo w) :
    Calls Tryz.prog 7 #[.string ⟨s.toArray⟩] w fun e w' => ListPost 30 (Co.listOf s) w e w' := by
  obtain ⟨R, hR⟩ : ∃ R, Co.listOf s = R := ⟨_, rfl⟩
  rw [hR]
  obtain ⟨i0, hi, hz0, hz1, hz2⟩ := info_parts info_span30
  obtain ⟨wA, hwA⟩ : ∃ wA, w.alloc (.cells #[.string ⟨#[32]⟩, .string ⟨#[44]⟩, .string ⟨#[9]⟩, .string ⟨#[44]⟩] 9) = wA := ⟨_, rfl⟩
  have hbA : Below w.heap.size w wA := by rw [← hwA]; exact (Below.refl _ _).alloc (Nat.le_refl _) _
  have hkA : Blk wA w.heap.size #[.string ⟨#[32]⟩, .string ⟨#[44]⟩, .string ⟨#[9]⟩, .string ⟨#[44]⟩] 9 := by rw [← hwA]; exact Blk.new _ _ _
  have hnr := Rp.newRep_any w.heap.size 0 4 wA (fun i hi => by
    rw [Nat.zero_add]
    have : i = 0 ∨ i = 1 ∨ i = 2 ∨ i = 3 := by omega
    rcases this with rfl | rfl | rfl | rfl
    · exact hkA.cell 0 rfl
    · exact hkA.cell 1 rfl
    · exact hkA.cell 2 rfl
    · exact hkA.cell 3 rfl)
  have HBA := Lib.hid hbA
  have HG := Lib.hid hg
  have HWA := Lib.hid hwA
  have HR := Lib.hid hR
  clear hbA hkA hg hwA hR
  go_enter Tryz.func7, Tryz.ntmps7
  go_wp2_with fail
  rw [HWA.out]
  refine hnr.mono ?_
  rintro e w1 ⟨r, v, rfl, hrn, hr1, ho1, hb1⟩
  have hrl := hr1.lt
  have hrep := Rp.replace_any r v _ s hl w1 hr1 ho1 (fun k hk e => by
    rw [e] at hk
    exact row_not hr1 ho1 (by decide) hk)
  have HB1 := Lib.hid (HBA.out.trans (hb1.mono HBA.out.size))
  have HRN := Lib.hid hrn
  clear hnr hr1 ho1 hb1 hrn
  go_wp2_with fail
  refine hrep.mono ?_
  rintro e w2 ⟨rfl, hk2⟩
  have hb2 : Below w.heap.size w w2 := HB1.out.trans (below_of_kept hk2 (fun k hk => by rw [hk]; have := HRN.out; have := HBA.out.size; omega) HB1.out.size)
  have hsp := splitStops_any s hl w2 (HG.out.below hb2)
  have hpl := parts_len Wi.sepB s
  obtain ⟨PL, hPL⟩ : ∃ PL, Wi.partsBy Wi.sepB s = PL := ⟨_, rfl⟩
  rw [hPL] at hsp hpl
  have HPL := Lib.hid hPL
  have HLEN := Lib.hid hpl
  have HB2 := Lib.hid hb2
  clear hrep hk2 hb2 hPL hpl
  go_wp2_with fail
  refine hsp.mono ?_
  rintro e w3 ⟨rfl, hc3, hb3, hlt3⟩
  have HC3 := Lib.hid hc3
  have HB3 := Lib.hid (HB2.out.trans (hb3.mono HB2.out.size))
  have HLT := Lib.hid hlt3
  clear hsp hc3 hb3 hlt3 hrl
  go_wp2_with fail
  go_loopw [4, 6, 7, 8, 9, 10, 11, 12, 13, 14, 21] (fun x4 _ _ _ _ _ _ _ _ _ x21 wr => ∃ (k : Nat) (out : List Co.Spn), k ≤ PL.length ∧ out.length ≤ k ∧ x21 = .int .i64 k ∧ Hid (SpansOwn 30 wr w3.heap.size x4 out) ∧ Hid (Below w3.heap.size w3 wr) ∧ Hid (Co.listGo out (PL.drop k) = R)) (fun _ _ _ _ _ _ _ _ _ _ x21 _ => PL.length - (intOf x21).toNat)
  case atStart => exact ⟨0, [], Nat.zero_le _, Nat.le_refl _, rfl, Lib.hid (World.ownsRow_nil _ _ _ _), Lib.hid (Below.refl _ _), Lib.hid (by rw [List.drop_zero, ← HPL.out]; exact HR.out)⟩
  case round =>
    obtain ⟨k, out, hk, hok, rfl, HO, HBR, HGO⟩ := hrel
    obtain ⟨p, c, rfl⟩ := own_shape HO.out
    have hbw := HB3.out.trans (HBR.out.mono HB3.out.size)
    have HB := Lib.hid hbw
    clear hbw
    have hkb : k ≤ 1073741824 := by have := HLEN.out.1; omega
    by_cases hlt : k < PL.length
    · have e1 : decide ((k : Int) < PL.length) = true := by simp; omega
      have e2 : decide (k < PL.length) = true := by simp; omega
      have f1 : (0 : Int) ≤ k := by omega
      have f2 : (k : Int) < PL.length := by omega
      obtain ⟨P, hP⟩ : ∃ P, PL.getD k [] = P := ⟨_, rfl⟩
      have hc := (HBR.out.cell (p := ⟨w2.heap.size, k, none⟩) HLT.out).trans (HC3.out k hlt)
      rw [hP] at hc
      have hP2 : PL[k] = P := by rw [← hP, List.getD_eq_getElem?_getD, List.getElem?_eq_getElem hlt]; rfl
      have hgo := HGO.out
      rw [List.drop_eq_getElem_cons hlt, hP2] at hgo
      have hPl : P.length ≤ s.length := HLEN.out.2 P (by rw [← hP2]; exact List.getElem_mem hlt)
      obtain ⟨Q, hQ⟩ : ∃ Q, PL.drop (k + 1) = Q := ⟨_, rfl⟩
      rw [hQ] at hgo
      have HGO2 := Lib.hid hgo
      have HQ := Lib.hid hQ
      have hcut := dash_any P (by omega) wr (HG.out.below HB.out)
      have hdl := Co.dash_len P
      obtain ⟨a, b, d, hd⟩ : ∃ a b d, Co.dash P = (a, b, d) := ⟨_, _, _, rfl⟩
      rw [hd] at hcut hdl
      simp only at hcut hdl
      obtain ⟨f, ok, hpa⟩ : ∃ f ok, Co.placeV a 1 = (f, ok) := ⟨_, _, rfl⟩
      obtain ⟨t, g, hto⟩ : ∃ t g, Co.toV b d f = (t, g) := ⟨_, _, rfl⟩
      obtain ⟨hs1, hs2, hs3⟩ := span_parts P a b d f t ok g hd hpa hto
      have hla : a.length < 1073741824 := by omega
      have hlb : b.length < 1073741824 := by omega
      have HLA := Lib.hid hla
      have HLB := Lib.hid hlb
      have HPA := Lib.hid hpa
      have HTO := Lib.hid hto
      have HS1 := Lib.hid hs1
      have HS2 := Lib.hid hs2
      have HS3 := Lib.hid hs3
      clear hgo hQ hP hP2 hPl hdl hd hpa hto hs1 hs2 hs3 hla hlb
      go_wp2_with fail
      refine hcut.mono ?_
      rintro e w4 ⟨rfl, hb4⟩
      have HB4 := Lib.hid (HB.out.trans (hb4.mono HB.out.size))
      have HBR4 := Lib.hid (HBR.out.trans (hb4.mono HBR.out.size))
      have HO4 := Lib.hid (row_keep HO.out hb4)
      clear hcut hb4 hc
      have ea := str_nil a
      have eb := str_nil b
      obtain ⟨bb, hbb⟩ : ∃ bb, (a.isEmpty && b.isEmpty) = bb := ⟨_, rfl⟩
      have HBB := Lib.hid hbb
      go_upto_region 6 with fail
      go_cut [31, 32, 33, 34, 35, 36] (fun _ _ _ _ _ x36 wx => x36 = .bool bb ∧ wx = w4)
      case first =>
        cases hae : a.isEmpty with
        | false =>
          rw [hae] at ea hbb
          subst hbb
          go_wp2_with fail
          go_meet
          exact ⟨rfl, rfl⟩
        | true =>
          rw [hae] at ea hbb
          have : b.isEmpty = bb := by simpa using hbb
          have HE := Lib.hid this
          clear hbb this
          go_wp2_with fail
          go_meet
          exact ⟨by rw [HE.out], rfl⟩
      case rest =>
        obtain ⟨rfl, rfl⟩ := hcut
        clear hbb ea eb
        cases bb with
        | true =>
          have hR4 : R = none := by
            have hh := HBB.out
            rw [Bool.and_eq_true] at hh
            rw [← HGO2.out]; exact Co.listGo_bad _ _ _ (HS1.out hh.1 hh.2)
          have HR4 := Lib.hid hR4
          clear hR4
          go_wp2_with fail
          go_ret2
          exact ⟨HB4.out, .inl ⟨HR4.out, rfl⟩⟩
        | false =>
          have hne : ¬ (a.isEmpty = true ∧ b.isEmpty = true) := by
            have hh := HBB.out
            rintro ⟨h1, h2⟩
            rw [h1, h2] at hh
            cases hh
          have HNE := Lib.hid hne
          have hpl := place_any a 1 HLA.out wc (HG.out.below HB4.out)
          rw [HPA.out] at hpl
          unfold placeR at hpl
          simp only at hpl
          clear hne
          go_wp2_with fail
          refine hpl.mono ?_
          rintro e w5 ⟨rfl, hb5⟩
          have HB5 := Lib.hid (HB4.out.trans (hb5.mono HB4.out.size))
          have HBR5 := Lib.hid (HBR4.out.trans (hb5.mono HBR4.out.size))
          have HO5 := Lib.hid (row_keep HO4.out hb5)
          clear hpl hb5 HB4 HBR4 HO4
          go_upto_if 43 with fail
          go_cut [9, 12, 13, 25, 27, 28, 29, 30, 43, 44, 45, 46, 47, 48] (fun _ x12 x13 _ _ _ _ _ _ _ _ _ _ _ wx => x12 = .int .i64 t ∧ x13 = .bool g ∧ Hid (Below w.heap.size w wx) ∧ Hid (Below w3.heap.size w3 wx) ∧ Hid (wx.ownsRow w3.heap.size 30 2 (.slice p out.length c) out.length (spanVals out)))
          case first =>
            cases d with
            | false =>
              have hto := HTO.out
              obtain ⟨rfl, rfl⟩ : f = t ∧ true = g := by
                unfold Co.toV at hto
                simpa using hto
              clear hto
              go_wp2_with fail
              go_meet
              exact ⟨rfl, rfl, HB5, HBR5, HO5⟩
            | true =>
              have hpl := place_any b 2147483647 HLB.out w5 (HG.out.below HB5.out)
              rw [show Co.placeV b 2147483647 = (t, g) from HTO.out] at hpl
              unfold placeR at hpl
              simp only at hpl
              go_wp2_with fail
              refine hpl.mono ?_
              rintro e w6 ⟨rfl, hb6⟩
              have HB6 := Lib.hid (HB5.out.trans (hb6.mono HB5.out.size))
              have HBR6 := Lib.hid (HBR5.out.trans (hb6.mono HBR5.out.size))
              have HO6 := Lib.hid (row_keep HO5.out hb6)
              clear hpl hb6
              go_wp2_with fail
              go_meet
              exact ⟨rfl, rfl, HB6, HBR6, HO6⟩
          case rest =>
            obtain ⟨w6, hw6⟩ : ∃ w6, w6 = wc := ⟨_, rfl⟩
            subst hw6
            obtain ⟨rfl, rfl, HB6, HBR6, HO6⟩ := hcut
            clear HB5 HBR5 HO5
            go_upto_region 13 with fail
            obtain ⟨w7, hw7⟩ : ∃ w7, w6.alloc (.cells #[.int .i64 f, .int .i64 t] 30) = w7 := ⟨_, rfl⟩
            have HB7 := Lib.hid (show Below w.heap.size w w7 by rw [← hw7]; exact HB6.out.alloc HB6.out.size _)
            have HBR7 := Lib.hid (show Below w3.heap.size w3 w7 by rw [← hw7]; exact HBR6.out.alloc HBR6.out.size _)
            have HO7 := Lib.hid (show w7.ownsRow w3.heap.size 30 2 (.slice p out.length c) out.length (spanVals out) by rw [← hw7]; exact HO6.out.alloc _)
            have hk7 : Blk w7 w6.heap.size #[.int .i64 f, .int .i64 t] 30 := by rw [← hw7]; exact Blk.new _ _ _
            have c0 := hk7.cell 0 (v := .int .i64 f) rfl
            have c1 := hk7.cell 1 (v := .int .i64 t) rfl
            rw [hw7]
            generalize w6.heap.size = bx at *
            clear hk7 hw7 HB6 HO6 HBR6
            obtain ⟨cc, hcc⟩ : ∃ cc, (ok && (g && decide (f ≤ t))) = cc := ⟨_, rfl⟩
            have HCC := Lib.hid hcc
            go_cut [52, 53, 54, 55, 56, 57, 58, 59, 60, 61, 62] (fun _ _ _ _ _ _ _ _ _ _ x62 wx => x62 = .bool cc ∧ wx = w7)
            case first =>
              cases ok with
              | false =>
                obtain rfl : false = cc := by simpa using hcc
                clear hcc
                go_wp2_with fail
                go_meet
                exact ⟨rfl, rfl⟩
              | true =>
                cases g with
                | false =>
                  obtain rfl : false = cc := by simpa using hcc
                  clear hcc
                  go_wp2_with fail
                  go_meet
                  exact ⟨rfl, rfl⟩
                | true =>
                  have hfc : decide (f ≤ t) = cc := by rw [Bool.true_and, Bool.true_and] at hcc; exact hcc
                  clear hcc
                  go_wp2_with fail
                  go_meet
                  exact ⟨rfl, rfl⟩
            case rest =>
              obtain ⟨rfl, rfl⟩ := hcut
              clear hcc
              cases cc with
              | false =>
                have hR4 : R = none := by
                  have hh := HCC.out
                  rw [← HGO2.out]
                  refine Co.listGo_bad _ _ _ (HS3.out ?_)
                  rintro ⟨h1, h2, h3⟩
                  rw [h1, h2, decide_eq_true h3] at hh
                  cases hh
                have HR4 := Lib.hid hR4
                clear hR4
                go_wp2_with fail
                go_ret2
                exact ⟨HB7.out, .inl ⟨HR4.out, rfl⟩⟩
              | true =>
                have hgood : Co.listGo (out ++ [(f, t)]) Q = R := by
                  have hh := HCC.out
                  rw [Bool.and_eq_true, Bool.and_eq_true, decide_eq_true_eq] at hh
                  rw [← HGO2.out, Co.listGo_good _ _ _ _ (HS2.out HNE.out hh.1 hh.2.1 hh.2.2)]
                have HGOOD := Lib.hid hgood
                clear hgood
                obtain ⟨w7, hw7⟩ : ∃ w7, w7 = wc := ⟨_, rfl⟩
                subst hw7
                go_wp2_with (at_builtin; refine wpList_append_own _ rfl _ _ 23 rfl w3.heap.size 30 i0 (.agg #[.int .i64 0, .int .i64 0]) 2 16 Tryz.underlying23 hi hz0 hz1 hz2 rfl (by decide) _ _ _ rfl (HO7.out.alloc _) ⟨w7.heap.size, 0, none⟩ 1 1 [.int .i64 f, .int .i64 t] rfl rfl (cells_new _ #[_, _] _) (by simp [Value.oneCell']) (by unfold maxLen; first | omega | (simp <;> omega)) (by first | omega | (simp <;> omega)) (by have := HBR7.out.size; simp <;> omega) ?_; intro v' w8 hown' hgrow _)
                obtain ⟨hown8, hb8⟩ := span_push (w := w3) HO7.out HBR7.out HBR7.out.size hown' hgrow
                go_roundw
                case rel => exact ⟨k + 1, out ++ [(f, t)], by omega, by simp; omega, by go_num, Lib.hid hown8, Lib.hid hb8, Lib.hid (by rw [HQ.out]; exact HGOOD.out)⟩
                case measure => simp [intOf]; omega
    · obtain rfl : k = PL.length := by omega
      have e1 : decide ((PL.length : Int) < PL.length) = false := by simp
      have hR4 : some out = R := by
        have := HGO.out
        rw [List.drop_of_length_le (Nat.le_refl _)] at this
        exact this
      have HR4 := Lib.hid hR4
      clear hR4
      go_wp2_with fail
      go_ret2
      exact ⟨HB.out, .inr ⟨out, _, HR4.out.symm, rfl, own_mono HO.out HB3.out.size⟩⟩

end Go.Proofs.YtjdcjdclipbjhaaGreatDoor

/-
  What opt.Parse, Has and Last compute, as plain functions. No program in sight. No condition: definitions alone.
-/
namespace Go.Proofs.YtjdcjdclipbjhaaGreatDoor.Op

abbrev Bytes := List UInt8

/-- The kinds of a spec's letters: 0 none, 1 alone, 2 with an argument. -/
def letF : Bytes → (UInt8 → Nat) → (UInt8 → Nat)
  | [], f => f
  | c :: r, f => letF r (if c = 58 ∨ c = 45 ∨ f c ≠ 0 then f else fun x => if x = c then (if r.head? = some 58 then 2 else 1) else f x)
def kinds (spec : Bytes) : UInt8 → Nat := letF spec fun _ => 0

/-- The letters of one argument, the arguments behind it. -/
def wordF (kf : UInt8 → Nat) : Bytes → List Bytes → Option (List (UInt8 × Bytes) × List Bytes)
  | [], r => some ([], r)
  | c :: t, r =>
    if kf c = 0 then none
    else if kf c = 1 then
      match wordF kf t r with
      | none => none
      | some (l, r') => some ((c, []) :: l, r')
    else if t ≠ [] then some ([(c, t)], r)
    else match r with
      | [] => none
      | x :: r' => some ([(c, x)], r')

def parseF (kf : UInt8 → Nat) : Nat → List Bytes → Option (List (UInt8 × Bytes) × List Bytes)
  | 0, l => some ([], l)
  | _ + 1, [] => some ([], [])
  | k + 1, a :: r =>
    if a.length < 2 ∨ a.head? ≠ some 45 then some ([], a :: r)
    else if a = [45, 45] then some ([], r)
    else match wordF kf (a.drop 1) r with
      | none => none
      | some (l, r') =>
        match parseF kf k r' with
        | none => none
        | some (l', o) => some (l ++ l', o)
def parse (spec : Bytes) (args : List Bytes) : Option (List (UInt8 × Bytes) × List Bytes) := parseF (kinds spec) args.length args

def has (l : List (UInt8 × Bytes)) (c : UInt8) : Bool := l.any fun o => o.1 == c
/-- The argument of the last one of a letter. -/
def last : List (UInt8 × Bytes) → UInt8 → Option Bytes
  | [], _ => none
  | o :: r, c => match last r c with
    | some x => some x
    | none => if o.1 = c then some o.2 else none

theorem wordF_len (kf : UInt8 → Nat) : ∀ (a : Bytes) (r : List Bytes) (l : List (UInt8 × Bytes)) (r' : List Bytes), wordF kf a r = some (l, r') → r'.length ≤ r.length := by
  intro a
  induction a with
  | nil =>
    intro r l r' h
    simp only [wordF, Option.some.injEq, Prod.mk.injEq] at h
    obtain ⟨-, rfl⟩ := h
    exact Nat.le_refl _
  | cons c t ih =>
    intro r l r' h
    unfold wordF at h
    split at h
    · cases h
    split at h
    · split at h
      · cases h
      · rename_i l2 r2 h2
        have := ih r l2 r2 h2
        simp only [Option.some.injEq, Prod.mk.injEq] at h
        obtain ⟨-, rfl⟩ := h
        exact this
    split at h
    · simp only [Option.some.injEq, Prod.mk.injEq] at h
      obtain ⟨-, rfl⟩ := h
      exact Nat.le_refl _
    · cases r with
      | nil => cases h
      | cons x r3 =>
        simp only [Option.some.injEq, Prod.mk.injEq] at h
        obtain ⟨-, rfl⟩ := h
        simp

theorem parse_fuel (kf : UInt8 → Nat) : ∀ (k m : Nat) (args : List Bytes), args.length ≤ k → args.length ≤ m → parseF kf k args = parseF kf m args := by
  intro k
  induction k with
  | zero =>
    intro m args h _
    have : args = [] := List.eq_nil_of_length_eq_zero (by omega)
    subst this
    cases m <;> rfl
  | succ k ih =>
    intro m args h1 h2
    cases args with
    | nil => cases m <;> rfl
    | cons a r =>
      cases m with
      | zero => simp at h2
      | succ m =>
        simp only [List.length_cons] at h1 h2
        unfold parseF
        split
        · rfl
        split
        · rfl
        cases hw : wordF kf (a.drop 1) r with
        | none => rfl
        | some x =>
          obtain ⟨l, r'⟩ := x
          have := wordF_len kf _ _ _ _ hw
          simp only
          rw [ih m r' (by omega) (by omega)]

end Go.Proofs.YtjdcjdclipbjhaaGreatDoor.Op

/-
  The walk of opt.letters. Condition: the spec is short.
-/
namespace Go.Proofs.YtjdcjdclipbjhaaGreatDoor
open Go.RowKit Go.Shelf Go.Maps

/-- How the map of kinds reads. -/
def KMap (D : DataW Unit) (f : UInt8 → Nat) : Prop := ∀ (c : UInt8) z, D.atKey (.int .u8 c.toNat) z = if f c = 0 then z else .lit (.int .i64 (f c))

theorem kU8 : Keyed Tryz.prog 5 := Maps.int_keyed Tryz.underlying5
theorem key_u8 (c : UInt8) : keyOf Tryz.prog 5 (.int .u8 c.toNat) = some (.int .u8 c.toNat) := keyOf_int_mk Tryz.underlying5 (WalkArith.wf_u8 (by have := c.toNat_lt; omega))
theorem keyLit_u8 (n : Int) : WideAt.IsKeyLit (.int .u8 n) := by unfold WideAt.IsKeyLit; trivial
theorem KMap.nil : KMap (.map []) (fun _ => 0) := fun c z => by simp [DataW.atKey]
theorem KMap.put {D : DataW Unit} {f : UInt8 → Nat} (h : KMap D f) (hD : IsMap D) (c : UInt8) (n : Nat) (hn : n ≠ 0) : KMap (D.put (.int .u8 c.toNat) (.lit (.int .i64 n))) (fun x => if x = c then n else f x) := by
  intro x z
  by_cases hx : x = c
  · subst hx
    rw [atKey_put_same hD (keyLit_u8 _)]
    simp [hn]
  · rw [atKey_put_other (fun e => hx (by injection e with _ e; exact UInt8.toNat_inj.1 (by omega))), h x z]
    simp [hx]
theorem KMap.has {D : DataW Unit} {f : UInt8 → Nat} (h : KMap D f) (c : UInt8) : Maps.has D (.int .u8 c.toNat) = !(f c == 0) := by
  by_cases hf : f c = 0
  · rw [has_false_of_atKey (fun z => by rw [h c z, if_pos hf])]; simp [hf]
  · rw [has_true_of_atKey (fun z => by rw [h c z, if_neg hf])]; simp [hf]
theorem grown_below' {b B : Nat} {w w' : World} (h : w.grownBy w' (some b)) (hb : B ≤ b) (hw : B ≤ w.heap.size) : Below B w w' :=
  ⟨h.os, h.tape, h.output, h.size, fun k hk => h.block k (by omega) (by simp; omega)⟩
/-- A look-up with its answer whether it is there. -/
theorem look2 {W : World} {m n : Nat} {D : DataW Unit} {f : UInt8 → Nat} (ho : W.ownsMap Tryz.prog 5 (plainElem (H := Unit) Tryz.prog 3) m n D) (hk : KMap D f) (c : UInt8) :
    (Instr.lookup 277 (.map (some m)) (.int .u8 c.toNat) true).run Tryz.prog W = .ok (.tuple #[.int .i64 (f c), .bool (!(f c == 0))]) W := by
  obtain ⟨v, ps, hrun, hv⟩ := ho.look_ok kU8 (t := 277) Tryz.underlying277 (z := .int .i64 0) (by kernel_rfl) (zd := .lit (.int .i64 0)) (zp := []) (plainElem_int Tryz.underlying3 (by decide)) (key_u8 c)
  obtain ⟨x, rfl, hx, -⟩ := plainElem_int_inv Tryz.underlying3 hv
  rw [hk c] at hx
  rw [hrun, hk.has c]
  by_cases hf : f c = 0
  · rw [if_pos hf] at hx
    simp only [Prod.mk.injEq, DataW.lit.injEq, Lit.int.injEq, true_and] at hx
    rw [← hx.1, hf]; rfl
  · rw [if_neg hf] at hx
    simp only [Prod.mk.injEq, DataW.lit.injEq, Lit.int.injEq, true_and] at hx
    rw [← hx.1]
/-- A look-up without it. -/
theorem look1 {W : World} {m n : Nat} {D : DataW Unit} {f : UInt8 → Nat} (ho : W.ownsMap Tryz.prog 5 (plainElem (H := Unit) Tryz.prog 3) m n D) (hk : KMap D f) (c : UInt8) :
    (Instr.lookup 277 (.map (some m)) (.int .u8 c.toNat) false).run Tryz.prog W = .ok (.int .i64 (f c)) W := by
  obtain ⟨x, hrun, hx, -⟩ := ho.lookup_int kU8 (t := 277) Tryz.underlying277 Tryz.underlying3 (by kernel_rfl) (key_u8 c)
  rw [hk c] at hx
  rw [hrun]
  by_cases hf : f c = 0
  · rw [if_pos hf] at hx
    simp only [DataW.lit.injEq, Lit.int.injEq, true_and] at hx
    rw [← hx, hf]; rfl
  · rw [if_neg hf] at hx
    simp only [DataW.lit.injEq, Lit.int.injEq, true_and] at hx
    rw [← hx]

set_option maxRecDepth 100000 in
set_option maxHeartbeats 4000000 in
theorem letters_any (spec : Bts) (hs : spec.length ≤ 1000) (w : World) :
    Calls Tryz.prog 148 #[.string ⟨spec.toArray⟩] w fun e w' => ∃ m n D, e = .returned (.map (some m)) ∧ w.heap.size ≤ m ∧ w'.ownsMap Tryz.prog 5 (plainElem (H := Unit) Tryz.prog 3) m n D ∧ KMap D (Op.kinds spec) ∧ Below w.heap.size w w' := by
  have hmm := @run_makeMap Tryz.prog
  have o0 := Lib.hid (World.ownsMap_made w Tryz.prog 5 (plainElem (H := Unit) Tryz.prog 3))
  have b0 := Lib.hid ((Below.refl w.heap.size w).alloc (Nat.le_refl _) (.map #[] 0))
  have hsz : (⟨spec.toArray⟩ : ByteArray).size = spec.length := rfl
  go_enter Tryz.func148, Tryz.ntmps148
  go_wp2_with fail
  go_loopw [4, 5, 6, 7, 11] (fun _x4 _x5 _x6 _x7 i wr => ∃ (k n : Nat) (D : DataW Unit) (f : UInt8 → Nat), k ≤ spec.length ∧ n ≤ 2 * k ∧ i = .int .i64 k ∧ Hid (wr.ownsMap Tryz.prog 5 (plainElem (H := Unit) Tryz.prog 3) w.heap.size n D) ∧ Hid (KMap D f) ∧ Hid (Op.letF (spec.drop k) f = Op.kinds spec) ∧ Hid (Below w.heap.size w wr)) (fun _ _ _ _ i _ => spec.length - (intOf i).toNat)
  case atStart => exact ⟨0, 0, .map [], fun _ => 0, Nat.zero_le _, Nat.le_refl _, rfl, o0, Lib.hid KMap.nil, Lib.hid rfl, b0⟩
  case round =>
    obtain ⟨k, n, D, f, hk, hn, rfl, ho, hm, hl, hb⟩ := hrel
    by_cases hlt : k < spec.length
    · obtain ⟨c, hdrop, hbg⟩ := byte_at hlt
      have hL := look2 ho.out hm.out c
      have HD := Lib.hid hdrop
      clear hdrop
      have hstep : Op.letF (spec.drop k) f = Op.letF (spec.drop (k + 1)) (if c = 58 ∨ c = 45 ∨ f c ≠ 0 then f else fun x => if x = c then (if (spec.drop (k + 1)).head? = some 58 then 2 else 1) else f x) := by
        rw [HD.out, Op.letF]
      have HST := Lib.hid hstep
      clear hstep
      by_cases hsk : c = 58 ∨ c = 45 ∨ f c ≠ 0
      · have hfin : Op.letF (spec.drop (k + 1)) f = Op.kinds spec := by have := HST.out; rw [if_pos hsk, hl.out] at this; exact this.symm
        have HF := Lib.hid hfin
        clear hfin HST
        by_cases h1 : c = 58
        · have e1 : ((c.toNat : Int) == 58) = true := by rw [h1]; rfl
          clear hsk h1
          go_wp2_with fail
          go_roundw
          case rel => exact ⟨k + 1, n, D, f, by omega, by omega, by go_num, ho, hm, HF, hb⟩
          case measure => simp [intOf]; omega
        · by_cases h2 : c = 45
          · have e1 : ((c.toNat : Int) == 58) = false := by simpa using u8_lit (n := 58) h1 (by decide)
            have e2 : ((c.toNat : Int) == 45) = true := by rw [h2]; rfl
            clear hsk h1 h2
            go_wp2_with fail
            go_roundw
            case rel => exact ⟨k + 1, n, D, f, by omega, by omega, by go_num, ho, hm, HF, hb⟩
            case measure => simp [intOf]; omega
          · have hf : (f c == 0) = false := by
              rcases hsk with h | h | h
              · exact absurd h h1
              · exact absurd h h2
              · simpa using h
            have e1 : ((c.toNat : Int) == 58) = false := by simpa using u8_lit (n := 58) h1 (by decide)
            have e2 : ((c.toNat : Int) == 45) = false := by simpa using u8_lit (n := 45) h2 (by decide)
            rw [hf] at hL
            change _ = Result.ok (Value.tuple #[.int .i64 (f c), .bool true]) wr at hL
            clear hsk h1 h2 hf
            go_wp2_with fail
            go_roundw
            case rel => exact ⟨k + 1, n, D, f, by omega, by omega, by go_num, ho, hm, HF, hb⟩
            case measure => simp [intOf]; omega
      · have h1 : c ≠ 58 := fun h => hsk (.inl h)
        have h2 : c ≠ 45 := fun h => hsk (.inr (.inl h))
        have h3 : f c = 0 := Decidable.not_not.1 fun h => hsk (.inr (.inr h))
        have hst2 := HST.out
        rw [if_neg hsk, hl.out] at hst2
        have HST2 := Lib.hid hst2
        have e1 : ((c.toNat : Int) == 58) = false := by simpa using u8_lit (n := 58) h1 (by decide)
        have e2 : ((c.toNat : Int) == 45) = false := by simpa using u8_lit (n := 45) h2 (by decide)
        have hf : (f c == 0) = true := by simpa using h3
        rw [hf, h3] at hL
        change _ = Result.ok (Value.tuple #[.int .i64 0, .bool false]) wr at hL
        obtain ⟨w1, hu1, ho1, hg1⟩ := ho.out.update kU8 (t := 277) Tryz.underlying277 (show n < maxLen by unfold maxLen; omega) (val := .int .i64 1) (key_u8 c) (plainElem_int Tryz.underlying3 (by decide))
        have hm1 := hm.out.put ho.out.isMap c 1 (by decide)
        have hb1 := hb.out.trans (grown_below' hg1 (Nat.le_refl _) hb.out.size)
        have HO1 := Lib.hid ho1
        have HM1 := Lib.hid hm1
        have HB1 := Lib.hid hb1
        clear ho1 hm1 hb1 hg1 hst2 HST hsk h1 h2 h3 hf
        by_cases hlt2 : k + 1 < spec.length
        · obtain ⟨d, hdrop2, hbg2⟩ := byte_at hlt2
          have hhead : (spec.drop (k + 1)).head? = some d := by rw [hdrop2]; rfl
          have hc1 : decide (((k : Int) + 1) < spec.length) = true := by simp; omega
          by_cases hd : d = 58
          · subst hd
            obtain ⟨w2, hu2, ho2, hg2⟩ := HO1.out.update kU8 (t := 277) Tryz.underlying277 (show n + 1 < maxLen by unfold maxLen; omega) (val := .int .i64 2) (key_u8 c) (plainElem_int Tryz.underlying3 (by decide))
            have hm2 := HM1.out.put HO1.out.isMap c 2 (by decide)
            have hb2 := HB1.out.trans (grown_below' hg2 (Nat.le_refl _) HB1.out.size)
            have hfin : Op.letF (spec.drop (k + 1)) (fun x => if x = c then 2 else if x = c then 1 else f x) = Op.kinds spec := by
              rw [HST2.out]
              congr 1
              funext x
              rw [hhead, if_pos rfl]
              by_cases hx : x = c
              · simp [hx]
              · simp [hx]
            have HF := Lib.hid hfin
            have HO2 := Lib.hid ho2
            have HM2 := Lib.hid hm2
            have HB2 := Lib.hid hb2
            clear hfin ho2 hm2 hb2 hg2 hhead hdrop2 HST2
            go_wp2_with fail
            go_roundw
            case rel => exact ⟨k + 1, n + 1 + 1, _, _, by omega, by omega, by go_num, HO2, HM2, HF, HB2⟩
            case measure => simp [intOf]; omega
          · have ed : ((d.toNat : Int) == 58) = false := by simpa using u8_lit (n := 58) hd (by decide)
            have hfin : Op.letF (spec.drop (k + 1)) (fun x => if x = c then 1 else f x) = Op.kinds spec := by
              rw [HST2.out]
              congr 1
              funext x
              rw [hhead]
              have hd' : ¬ (some d = some (58 : UInt8)) := by simpa using hd
              by_cases hx : x = c
              · simp [hx, hd']
              · simp [hx]
            have HF := Lib.hid hfin
            clear hfin hhead hdrop2 HST2 hd
            go_wp2_with fail
            go_roundw
            case rel => exact ⟨k + 1, n + 1, _, _, by omega, by omega, by go_num, HO1, HM1, HF, HB1⟩
            case measure => simp [intOf]; omega
        · have hhead : (spec.drop (k + 1)).head? = none := by rw [List.drop_of_length_le (by omega)]; rfl
          have hc1 : decide (((k : Int) + 1) < spec.length) = false := by simp; omega
          have hfin : Op.letF (spec.drop (k + 1)) (fun x => if x = c then 1 else f x) = Op.kinds spec := by
            rw [HST2.out]
            congr 1
            funext x
            rw [hhead]
            by_cases hx : x = c
            · simp [hx]
            · simp [hx]
          have HF := Lib.hid hfin
          clear hfin hhead HST2
          go_wp2_with fail
          go_roundw
          case rel => exact ⟨k + 1, n + 1, _, _, by omega, by omega, by go_num, HO1, HM1, HF, HB1⟩
          case measure => simp [intOf]; omega
    · obtain rfl : k = spec.length := by omega
      have hfin : Op.kinds spec = f := by have := hl.out; rw [List.drop_of_length_le (Nat.le_refl _), Op.letF] at this; exact this.symm
      have HM : Hid (KMap D (Op.kinds spec)) := by rw [hfin]; exact hm
      clear hfin
      go_wp2_with fail
      go_ret
      exact ⟨_, n, D, rfl, Nat.le_refl _, ho.out, HM.out, hb.out⟩

end Go.Proofs.YtjdcjdclipbjhaaGreatDoor

/-
  The walks of Say, Feed, Open of a dash, Close of descriptor 0. Conditions: a process that runs, with arguments; lengths.
-/
namespace Go.Proofs.YtjdcjdclipbjhaaGreatDoor
open Go.RowKit Go.Shelf Go.Maps

theorem strs_cell {w : World} {B : Nat} {v : Value} {l : List Bts} (h : StrsOwn w B v l) (i : Nat) (hi : i < l.length) : ∃ g c, v = .slice (some ⟨g, 0, none⟩) l.length c ∧ l.length ≤ c ∧ B ≤ g ∧ g < w.heap.size ∧ ∀ j, j < l.length → w.cell? ⟨g, j, none⟩ = some (strV (l.getD j [])) := by
  rcases h.2 with ⟨-, h2⟩ | ⟨g, cap, cur, rfl, hb, hblk, hc, r⟩
  · omega
  · refine ⟨g, cap, rfl, hc, hb, lt_of_block hblk, fun j hj => ?_⟩
    have := h.cellAt j (by omega)
    rw [this]
    simp [List.getD_eq_getElem?_getD, hj]

set_option maxRecDepth 100000 in
set_option maxHeartbeats 4000000 in
theorem say_any (F : Fx) (M : Nat → Prop) (inp out err a0 op : Bts) (rest : List Bts) (e : Nat) (he : e < 27) (w : World) (h : PrAt w F M inp out err) (ha : F.args = a0 :: rest) (h1 : a0.length ≤ 1000000000) (h2 : op.length ≤ 1000000000) (hbig : err.length + (diagOf a0 op e).length ≤ 4294967296) :
    Calls Tryz.prog 94 #[.pointer (some ⟨F.p, 0, none⟩), .string ⟨op.toArray⟩, .int .i64 e] w fun x w' => (∃ v, x = .returned v) ∧ ∃ M', PrAt w' F M' inp out (err ++ diagOf a0 op e) ∧ Mv M M' w w' := by
  have hargs := args_any F M inp out err w h
  have hdiag := fun w => diag_any a0 op e he h1 h2 w
  rw [ha] at hargs
  have H := Lib.hid h
  clear h
  go_enter Tryz.func94, Tryz.ntmps94
  go_wp2_with fail
  refine hargs.mono ?_
  rintro x w1 ⟨v, rfl, ho1, hb1⟩
  obtain ⟨g, c, rfl, -, -, -, hc⟩ := strs_cell ho1 0 (by simp)
  have c0 := hc 0 (by simp)
  simp only [List.getD_cons_zero, strV] at c0
  have hlen : (0 : Int) < ((a0 :: rest).length : Nat) := by simp
  have HB1 := Lib.hid hb1
  clear hargs ho1 hc hb1
  generalize (a0 :: rest).length = n at *
  go_wp2_with fail
  refine (hdiag _).mono ?_
  rintro x w2 ⟨v, rfl, hs2, hb2⟩
  obtain ⟨pv, cv, rfl, -⟩ := hs2.bs
  have hb12 := HB1.out.trans (hb2.mono HB1.out.size)
  have hw := wrAll_any2 F M inp out err (diagOf a0 op e) _ w2 (H.out.below hb12) (hs2.mono fun g _ hg em => by
    have h1 : w1.heap.size ≤ g := hg
    have := HB1.out.size
    have := H.out.lt g em
    omega) hbig
  have HB := Lib.hid hb12
  clear hs2 hb2 hb12 hdiag c0
  go_wp2_with fail
  refine hw.mono ?_
  rintro x w3 ⟨rfl, M', hp3, hm3⟩
  have HP3 := Lib.hid hp3
  have HM3 := Lib.hid hm3
  clear hp3 hm3 hw
  go_wp2_with fail
  refine bodyPost_end (results_none rfl _ _ _) rfl ⟨⟨_, rfl⟩, M', HP3.out, (Mv.below HB.out).trans HM3.out⟩

set_option maxRecDepth 100000 in
theorem openDash_any (p : Option Addr) (w : World) :
    Calls Tryz.prog 93 #[.pointer p, .string ⟨#[45]⟩] w fun e w' => e = .returned (.tuple #[.int .i64 0, .int .i64 0]) ∧ w' = w := by
  go_enter Tryz.func93, Tryz.ntmps93
  go_wp2_with fail
  go_ret2
  exact ⟨rfl, rfl⟩

set_option maxRecDepth 100000 in
theorem close0_any (p : Option Addr) (w : World) :
    Calls Tryz.prog 101 #[.pointer p, .int .i64 0] w fun e w' => (∃ v, e = .returned v) ∧ w' = w := by
  go_enter Tryz.func101, Tryz.ntmps101
  go_wp2_with fail
  exact bodyPost_end (results_none rfl _ _ _) rfl ⟨⟨_, rfl⟩, rfl⟩

end Go.Proofs.YtjdcjdclipbjhaaGreatDoor

/-
  The walks of proc.Go, of attempt and its deferred closure. Condition on main: what it comes to.
-/
namespace Go.Proofs.YtjdcjdclipbjhaaGreatDoor
open Go.RowKit Go.Shelf Go.Maps

/-- A machine. -/
def MachAt (W : World) (mb p g : Nat) (done : Bool) (st : Int) : Prop := Blk W mb #[.pointer (some ⟨p, 0, none⟩), .func (.func g) #[] #[], .bool done, .int .i64 st] 131

set_option maxRecDepth 100000 in
set_option maxHeartbeats 4000000 in
theorem go_any (F : Fx) (M : Nat → Prop) (inp out err : Bts) (g : Nat) (w : World) (h : PrAt w F M inp out err) :
    Calls Tryz.prog 54 #[.pointer (some ⟨F.p, 0, none⟩), .func (.func g) #[] #[]] w fun e w' => e = .returned (.pointer (some ⟨w.heap.size, 0, none⟩)) ∧ MachAt w' w.heap.size F.p g false 0 ∧ Below w.heap.size w w' := by
  obtain ⟨hd, pk, st, hp⟩ := h.proc
  have c13 := new_cell (hp.cell 13 (v := .bool true) rfl) (.cells #[.pointer (some ⟨F.p, 0, none⟩), .func (.func g) #[] #[], .bool false, .int .i64 0] 131)
  clear h hp
  go_enter Tryz.func54, Tryz.ntmps54
  go_wp2_with fail
  go_ret
  exact ⟨rfl, Blk.new _ _ _, (Below.refl _ _).alloc (Nat.le_refl _) _⟩

theorem attempt_idle (p q : Addr) (w : World) :
    CallsD Tryz.prog 141 #[.pointer (some p), .pointer (some q)] .returning w fun e u' w' => e = .returned (.tuple #[]) ∧ u' = .returning ∧ w' = w := by
  refine callsD_of_wpS Tryz.func141 rfl fun c₀ cs hu => ?_
  apply wpS_seq
  apply wpS_region
  simp [wpOpsS, go_sem, recoverD, hu, Tryz.ntmps141, Exit.thenS]
  refine wpS_of_wp ?_
  change Code.wp _ _ _ { tmps := #[.pointer (some p), .pointer (some q), undef, undef, undef, undef, .nilIface, undef, undef, undef, undef, undef, undef, undef, undef, undef, undef, undef], defers := [] } _
  go_wp2_with fail
  cases c₀
  simp_all [bodyPostS, results, Tryz.results141]

end Go.Proofs.YtjdcjdclipbjhaaGreatDoor
