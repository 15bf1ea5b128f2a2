/-
  Texts of this seat put together: V30, OpenN.
-/
import Derived.Test.YtihigdcfibjbpaaGreatDoorQ27
import Derived.Test.YtihigdcfibjbpaaGreatDoorQ26
import Derived.Test.YtihigdcfibjbpaaGreatDoorQ4
import Derived.Test.YtihigdcfibjbpaaGreatDoorQ5

/-
  The walks of the document's Next and of the law WidthStops. Conditions: lengths; what the library's variables hold.
-/
namespace Go.Proofs.YtihigdcfibjbpaaGreatDoor
open Go.RowKit Go.Shelf Go.Maps

set_option maxRecDepth 100000 in
set_option maxHeartbeats 4000000 in
theorem rnext_any (l : List Int) (p : Option Addr) (c : Nat) (hcl : l.length ≤ c) (hN : l.length ≤ 1073741824) (hbd : ∀ n ∈ l, -9223372036854775808 ≤ n ∧ n ≤ 9223372036854775807) (col : Int) (h0 : 0 ≤ col) (hcol : col ≤ 1099511627776) (w : World) (hI : Is w p l) :
    Calls Tryz.prog 11 #[.slice p l.length c, .int .i64 col] w fun e w' => e = .returned (nextV (nextL l col)) ∧ w' = w := by
  have HI := Lib.hid hI
  clear hI
  by_cases h1 : l.length = 1
  · obtain ⟨n, rfl⟩ : ∃ n, l = [n] := List.length_eq_one_iff.1 h1
    obtain ⟨b, o, rfl, hb, hc⟩ := HI.out (by simp)
    have c0 := hc 0 (by simp)
    simp only [Nat.add_zero, List.getD_cons_zero] at c0
    have hn := hbd n (by simp)
    simp only [List.length_singleton] at hcl ⊢
    clear hc h1 hbd HI
    by_cases h2 : n < 1
    · have hv : nextV (nextL [n] col) = .tuple #[.int .i64 0, .bool false] := by simp [nextL, nextV, h2]
      have HV := Lib.hid hv
      have e1 : decide (1 ≤ n) = false := by simp; omega
      clear hv h2
      go_enter Tryz.func11, Tryz.ntmps11
      go_wp2_with fail
      go_loopw [7] (fun x7 wr => x7 = .int .i64 0 ∧ wr = w) (fun _ _ => 0)
      case atStart => exact ⟨rfl, rfl⟩
      case round =>
        obtain ⟨rfl, rfl⟩ := hrel
        go_wp2_with fail
        go_ret2
        exact ⟨by rw [HV.out]; rfl, rfl⟩
    · have hv : nextV (nextL [n] col) = .tuple #[.int .i64 (wrap64 (col - col % n + n)), .bool true] := by simp [nextL, nextV, h2]
      have HV := Lib.hid hv
      have e1 : decide (1 ≤ n) = true := by simp; omega
      have e3 : (n == 0) = false := by simp; omega
      have e8 : ¬ n = 0 := by omega
      have e4 : col.tmod n = col % n := Int.tmod_eq_emod_of_nonneg h0
      have e5 : 0 ≤ col % n := Int.emod_nonneg _ (by omega)
      have e6 : decide (col % n < 0) = false := by simp; omega
      have e7 : col % n ≤ col := by have := Int.mul_nonneg (show 0 ≤ n by omega) (Int.ediv_nonneg h0 (show 0 ≤ n by omega)); rw [Int.emod_def]; omega
      clear hv h2
      go_enter Tryz.func11, Tryz.ntmps11
      go_wp2_with fail
      go_ret2
      exact ⟨by rw [HV.out]; rfl, rfl⟩
  · have hv : nextL l col = l.find? fun n => decide (col < n) := by
      unfold nextL
      split
      · exact absurd rfl h1
      · rfl
    have HV := Lib.hid hv
    have e1 : ((l.length : Int) == 1) = false := by simp; omega
    have H1 := Lib.hid h1
    clear hv h1
    go_enter Tryz.func11, Tryz.ntmps11
    go_wp2_with fail
    go_loopw [7] (fun i wr => ∃ k : Nat, k ≤ l.length ∧ i = .int .i64 k ∧ Hid ((l.take k).find? (fun n => decide (col < n)) = none) ∧ wr = w) (fun i _ => l.length - (intOf i).toNat)
    case atStart => exact ⟨0, Nat.zero_le _, rfl, Lib.hid rfl, rfl⟩
    case round =>
      obtain ⟨k, hk, rfl, hf, rfl⟩ := hrel
      by_cases hlt : k < l.length
      · obtain ⟨b, o, rfl, hb, hc⟩ := HI.out (by omega)
        have c0 := hc k hlt
        obtain ⟨n, hn⟩ : ∃ n, l.getD k 0 = n := ⟨_, rfl⟩
        have hn2 : l[k] = n := by rw [← hn]; simp [List.getD_eq_getElem?_getD, List.getElem?_eq_getElem hlt]
        rw [hn] at c0
        have HN := Lib.hid hn2
        have hl2 : 2 ≤ l.length := by have := H1.out; omega
        have g1 : decide ((1 : Int) < l.length) = true := by simp; omega
        have g2 : decide (1 < l.length) = true := by simp; omega
        clear hc hn hn2
        by_cases hgt : col < n
        · have e2 : decide (col < n) = true := by simpa using hgt
          have hfin : l.find? (fun n => decide (col < n)) = some n := by
            have h3 := List.find?_append (xs := l.take k) (ys := l.drop k) (p := fun n => decide (col < n))
            rw [List.take_append_drop, hf.out, List.drop_eq_getElem_cons hlt, HN.out] at h3
            rw [h3]
            simp only [List.find?, e2, Option.none_or]
          have HF := Lib.hid hfin
          clear hgt hfin
          go_wp2_with fail
          go_ret2
          exact ⟨by rw [HV.out, HF.out]; rfl, rfl⟩
        · have e2 : decide (col < n) = false := by simpa using hgt
          have hfin : (l.take (k + 1)).find? (fun n => decide (col < n)) = none := by
            rw [List.take_succ_eq_append_getElem hlt, List.find?_append, hf.out, HN.out]
            simp [e2]
          have HF := Lib.hid hfin
          clear hgt hfin
          go_wp2_with fail
          go_roundw
          case rel => exact ⟨k + 1, by omega, by go_num, HF, by first | rfl | trivial⟩
          case measure => simp [intOf]; omega
      · obtain rfl : k = l.length := by omega
        have hfin : l.find? (fun n => decide (col < n)) = none := by have := hf.out; rw [List.take_of_length_le (Nat.le_refl _)] at this; exact this
        have HF := Lib.hid hfin
        clear hfin
        go_wp2_with fail
        go_ret2
        exact ⟨by rw [HV.out, HF.out]; rfl, rfl⟩

theorem ints_at {w : World} {B c : Nat} {p : Option Addr} {L : List Int} (h : w.ownsRow B 3 1 (.slice p L.length c) L.length (L.map intV)) (k : Nat) (hk : k < L.length) : ∃ g, p = some ⟨g, 0, none⟩ ∧ w.cell? ⟨g, k, none⟩ = some (.int .i64 L[k]) ∧ L.length ≤ c ∧ L.length ≤ 9223372036854775807 := by
  rcases h.2 with ⟨h1, h2⟩ | ⟨g', cap, cur, e', -, -, hc, hm, -⟩
  · omega
  · injection e' with e1 e2 e3
    subst e1
    refine ⟨g', rfl, ?_, by omega, by unfold maxLen at hm; omega⟩
    rw [h.cellAt k (by omega), List.getElem?_map, List.getElem?_eq_getElem hk]
    rfl
theorem Is.below {w w' : World} {p : Option Addr} {l : List Int} (h : Is w p l) (hb : Below w.heap.size w w') : Is w' p l := fun h0 => by
  obtain ⟨b, o, e, hlt, hc⟩ := h h0
  exact ⟨b, o, e, Nat.lt_of_lt_of_le hlt hb.size, fun i hi => (hb.cell (p := ⟨b, o + i, none⟩) hlt).trans (hc i hi)⟩

set_option maxRecDepth 100000 in
set_option maxHeartbeats 8000000 in
theorem stops_law_any (s : Bts) (hs : s.length < 1073741824) (l : List Int) (hN : l.length ≤ 1073741824) (hbd : ∀ n ∈ l, -9223372036854775808 ≤ n ∧ n ≤ 9223372036854775807) (p : Option Addr) (c : Nat) (hcl : l.length ≤ c) (col : Int) (_h0 : -9223372036854775808 ≤ col) (_h1 : col ≤ 9223372036854775807) (w : World) (hg : Glo w) (hI : Is w p l) :
    Calls Tryz.prog 3 #[.string ⟨s.toArray⟩, .slice p l.length c, .int .i64 col] w fun e w' => e = .returned (.bool true) ∧ Below w.heap.size w w' := by
  have haw := awake_any w hg
  have HG := Lib.hid hg
  have HI := Lib.hid hI
  have HBD := Lib.hid hbd
  clear hg hI hbd
  go_enter Tryz.func3, Tryz.ntmps3
  go_wp2_with fail
  refine haw.mono ?_
  rintro e w1 ⟨rfl, hb1⟩
  have hst := stops_any s hs w1 (HG.out.below hb1)
  obtain ⟨R, hR⟩ : ∃ R, Wi.stopsOf 2147483647 s = R := ⟨_, rfl⟩
  rw [hR] at hst
  have HR := Lib.hid hR
  have HB1 := Lib.hid hb1
  clear haw hb1 hR
  go_wp2_with fail
  refine hst.mono ?_
  rintro e w2 ⟨hb2, hp2⟩
  have hrs := rstops_any s hs w2
  rw [HR.out] at hrs
  have HB2 := Lib.hid (HB1.out.trans (hb2.mono HB1.out.size))
  clear hst hb2
  cases R with
  | none =>
    rcases hp2 with ⟨-, rfl⟩ | ⟨L, v, h, -⟩
    · go_wp2_with fail
      refine hrs.mono ?_
      rintro e w3 ⟨hb3, hp3⟩
      rcases hp3 with ⟨-, rfl⟩ | ⟨L, v, h, -⟩
      · have HB3 := Lib.hid (HB2.out.trans (hb3.mono HB2.out.size))
        clear hrs hb3
        go_wp2_with fail
        go_loopw [12] (fun x12 wr => x12 = .int .i64 0 ∧ wr = w3) (fun _ _ => 0)
        case atStart => exact ⟨rfl, rfl⟩
        case round =>
          obtain ⟨rfl, rfl⟩ := hrel
          have HFX : Hid (Below w.heap.size w wr) := Lib.hid HB3.out
          by_cases hneg : col < 0
          · have e1 : decide (col < 0) = true := by simpa using hneg
            clear hneg
            go_wp2_with fail
            go_ret
            exact ⟨rfl, HFX.out⟩
          · have e1 : decide (col < 0) = false := by simpa using hneg
            by_cases hbg : 1099511627776 < col
            · have e2 : decide (1099511627776 < col) = true := by simpa using hbg
              clear hneg hbg
              go_wp2_with fail
              go_ret
              exact ⟨rfl, HFX.out⟩
            · have e2 : decide (1099511627776 < col) = false := by simpa using hbg
              have hnx := next_any l p c hcl hN HBD.out col (by omega) (by omega) wr (HI.out.below HFX.out)
              have hrx := rnext_any l p c hcl hN HBD.out col (by omega) (by omega) wr (HI.out.below HFX.out)
              obtain ⟨n, b, hnv⟩ : ∃ n b, nextV (nextL l col) = .tuple #[.int .i64 n, .bool b] := by
                cases nextL l col
                · exact ⟨_, _, rfl⟩
                · exact ⟨_, _, rfl⟩
              rw [hnv] at hnx hrx
              clear hnv hneg hbg
              go_wp2_with fail
              refine hnx.mono ?_
              rintro e wx ⟨rfl, rfl⟩
              clear hnx
              go_wp2_with fail
              refine hrx.mono ?_
              rintro e wy ⟨rfl, rfl⟩
              clear hrx
              go_wp2_with fail
              go_ret
              exact ⟨rfl, HFX.out⟩

      · cases h
    · cases h
  | some L =>
    rcases hp2 with ⟨h, -⟩ | ⟨L', v2, h, rfl, ho2⟩
    · cases h
    · injection h with h
      subst h
      obtain ⟨p2, c2, rfl⟩ := ints_shape ho2
      go_wp2_with fail
      refine hrs.mono ?_
      rintro e w3 ⟨hb3, hp3⟩
      rcases hp3 with ⟨h, -⟩ | ⟨L', v3, h, rfl, ho3⟩
      · cases h
      · injection h with h
        subst h
        obtain ⟨p3, c3, rfl⟩ := ints_shape ho3
        have HB3 := Lib.hid (HB2.out.trans (hb3.mono HB2.out.size))
        have HO2 := Lib.hid (row_keep ho2 hb3)
        have HO3 := Lib.hid ho3
        clear hrs hb3 ho2 ho3
        go_wp2_with fail
        go_loopw [12] (fun x12 wr => ∃ k : Nat, k ≤ L.length ∧ x12 = .int .i64 k ∧ Hid (Below w3.heap.size w3 wr)) (fun x12 _ => L.length - (intOf x12).toNat)
        case atStart => exact ⟨0, Nat.zero_le _, rfl, Lib.hid (Below.refl _ _)⟩
        case round =>
          obtain ⟨k, hk, rfl, HBL⟩ := hrel
          by_cases hlt : k < L.length
          · obtain ⟨g2, rfl, hc2, hl2, hm2⟩ := ints_at HO2.out k hlt
            obtain ⟨g3, rfl, hc3, hl3, -⟩ := ints_at HO3.out k hlt
            have r2 := (HBL.out.cell (p := ⟨g2, k, none⟩) (World.block_lt_of_cell? _ _ hc2)).trans hc2
            have r3 := (HBL.out.cell (p := ⟨g3, k, none⟩) (World.block_lt_of_cell? _ _ hc3)).trans hc3
            obtain ⟨x, hx⟩ : ∃ x, L[k] = x := ⟨_, rfl⟩
            rw [hx] at r2 r3
            have g1 : decide ((k : Int) < L.length) = true := by simp; omega
            have g2' : decide (k < L.length) = true := by simp; omega
            have g3' : (0 : Int) ≤ k := by omega
            have g4 : (k : Int) < L.length := by omega
            have g5 : (x != x) = false := by simp
            clear hc2 hc3 hx
            go_upto_region 9 with fail
            go_region
            go_wp2_with fail
            go_roundw
            case rel => exact ⟨k + 1, by omega, by go_num, Lib.hid HBL.out.drew⟩
            case measure => simp [intOf]; omega
          · obtain rfl : k = L.length := by omega
            have g1 : decide ((L.length : Int) < L.length) = false := by simp
            have HFX : Hid (Below w.heap.size w wr) := Lib.hid (HB3.out.trans (HBL.out.mono HB3.out.size))
            by_cases hneg : col < 0
            · have e1 : decide (col < 0) = true := by simpa using hneg
              clear hneg
              go_wp2_with fail
              go_ret
              exact ⟨rfl, HFX.out⟩
            · have e1 : decide (col < 0) = false := by simpa using hneg
              by_cases hbg : 1099511627776 < col
              · have e2 : decide (1099511627776 < col) = true := by simpa using hbg
                clear hneg hbg
                go_wp2_with fail
                go_ret
                exact ⟨rfl, HFX.out⟩
              · have e2 : decide (1099511627776 < col) = false := by simpa using hbg
                have hnx := next_any l p c hcl hN HBD.out col (by omega) (by omega) wr (HI.out.below HFX.out)
                have hrx := rnext_any l p c hcl hN HBD.out col (by omega) (by omega) wr (HI.out.below HFX.out)
                obtain ⟨n, b, hnv⟩ : ∃ n b, nextV (nextL l col) = .tuple #[.int .i64 n, .bool b] := by
                  cases nextL l col
                  · exact ⟨_, _, rfl⟩
                  · exact ⟨_, _, rfl⟩
                rw [hnv] at hnx hrx
                clear hnv hneg hbg
                go_wp2_with fail
                refine hnx.mono ?_
                rintro e wx ⟨rfl, rfl⟩
                clear hnx
                go_wp2_with fail
                refine hrx.mono ?_
                rintro e wy ⟨rfl, rfl⟩
                clear hrx
                go_wp2_with fail
                go_ret
                exact ⟨rfl, HFX.out⟩

end Go.Proofs.YtihigdcfibjbpaaGreatDoor

/-
  A slice of numbers that comes in, opened.
-/
namespace Go.Proofs.YtihigdcfibjbpaaGreatDoor
open Go.ChangeShapes Go.WideShapes Go.ChangeAt Go.RowKit

theorem cellsInt : Tryz.prog.cellsOf 3 = 1 := by kernel_rfl
section
variable {H : Type} {enc : TypeId × Value → H} {W : World}
theorem open_nums {a0 : Option Addr} {len cap : Nat} {d0 : DataW H} {p : List MemPlace} (h0 : DataW.Trod enc Tryz.prog W 0 (fun _ => true) true 22 (.slice a0 len cap) d0 p) :
    ∃ l : List Int, l.length = len ∧ len ≤ cap ∧ Is W a0 l ∧ (∀ n ∈ l, -9223372036854775808 ≤ n ∧ n ≤ 9223372036854775807) ∧ len ≤ Rows.uptoBulk d0 := by
  obtain ⟨fuel, hf⟩ := h0
  rcases open_ints Tryz.underlying22 Tryz.underlying3 cellsInt hf with ⟨hcs, hx⟩ | ⟨a, len', cap', zs, hcs, _, hl, hm, hz, hx, hcell, hwz⟩
  · simp [Value.cells] at hcs
    obtain ⟨rfl, rfl, rfl⟩ := hcs
    exact ⟨[], rfl, Nat.le_refl _, fun h => absurd h (by simp), (fun n hn => by cases hn), Nat.zero_le _⟩
  · simp [Value.cells] at hcs
    obtain ⟨rfl, rfl, rfl⟩ := hcs
    simp only [Prod.mk.injEq] at hx
    obtain ⟨rfl, rfl⟩ := hx
    simp only [if_true] at hz
    refine ⟨zs.take len, by simp; omega, hl, fun hpos => ?_, fun n hn => int_in (hwz n (List.mem_of_mem_take hn)), ?_⟩
    · simp at hpos
      have hc0 := hcell 0 (by omega)
      have ha : a = ⟨a.block, a.off, none⟩ := plain_addr (a := a) (by simpa [Addr.add] using hc0)
      have hc1 := hc0
      rw [ha, add_plain'] at hc1
      have hlt := World.block_lt_of_cell? _ ⟨a.block, a.off + 0, none⟩ hc1
      refine ⟨a.block, a.off, by rw [← ha], hlt, fun i hi => ?_⟩
      simp at hi
      have hc := hcell i (by omega)
      rw [ha, add_plain'] at hc
      rw [hc]
      simp [List.getD_eq_getElem?_getD, show i < len by omega]
    · have := bulks.slice_le (lits (H := H) .i64 (zs.take len)) (lits .i64 (zs.drop len))
      simp [lits] at this
      simp [lits]; omega
end

end Go.Proofs.YtihigdcfibjbpaaGreatDoor
