/-
  Texts of this seat put together: C8, Rp1, App2.
-/
import Derived.Test.YtjdcjdclipbjhaaGreatDoorQ8
import Derived.Test.YtjdcjdclipbjhaaGreatDoorQ11
import Derived.Test.YtjdcjdclipbjhaaGreatDoorQ3
import Derived.Tactics
import Derived.Tactics2
import Derived.Defers
import Derived.Laws.Pointers
import Derived.Laws.LoneSync
import Derived.RegionTactic
import Derived.RegionCalls
import Derived.ChangeAlike
import Derived.Laws.EntriesVeiled

/-
  The walk of a cutter's line, by fields: a line without the sign; the chapter's line of three fields. Conditions: the line lies in memory; what the library's variables hold.
-/
namespace Go.Proofs.YtjdcjdclipbjhaaGreatDoor
open Go.RowKit Go.Shelf Go.Maps

theorem idxc_sl (w : World) (N : Nat → Prop) (v : Value) (xs : Bts) (h : Sl w N v xs) (ch : UInt8) :
    Calls Tryz.prog 154 #[v, .int .u8 ch.toNat] w fun e w' => e = .returned (.int .i64 (Lib.indexByte xs ch)) ∧ w' = w := by
  rcases h with ⟨rfl, rfl⟩ | ⟨g, o, c, rfl, -, -, -, hc⟩
  · exact Any.bytes_IndexByte_nil Tryz.lays187 _ w
  · have h := Any.bytes_IndexByte_at Tryz.lays187 ⟨g, o, none⟩ xs.length c (nums xs) ch.toNat w (nums_length xs) fun i hi => by
      rw [show ((⟨g, o, none⟩ : Addr).add i) = ⟨g, o + i, none⟩ by simp only [Addr.add]; split <;> simp_all, nums_getD xs i hi]
      exact hc i hi
    simp only [bytesOf_nums, Int.toNat_natCast, UInt8.ofNat_toNat] at h
    exact h

theorem split5 (g o c : Nat) (hc : 5 ≤ c) : ∃ s0 s2, Lib.splitV (Lib.bytesOf [58]) 0 (Lib.count (Lib.bytesOf [97, 58, 98, 58, 99]) (Lib.bytesOf [58])) ⟨g, o, none⟩ c (Lib.bytesOf [97, 58, 98, 58, 99]) = [s0, .slice (some ⟨g, o + 2, none⟩) 1 1, s2] := by
  have h1 : Lib.count (Lib.bytesOf [97, 58, 98, 58, 99]) (Lib.bytesOf [58]) = 2 := by decide
  have h2 : Lib.bytesOf [58] = [58] := by decide
  have h3 : Lib.bytesOf [97, 58, 98, 58, 99] = [97, 58, 98, 58, 99] := by decide
  rw [h1, h2, h3, Lib.splitV_hit _ _ _ _ _ _ 1 (by decide), Lib.splitV_hit _ _ _ _ _ _ 1 (by decide), Lib.splitV]
  have h4 : Lib.tailAddr ⟨g, o, none⟩ c (1 + ([58] : List UInt8).length) = ⟨g, o + 2, none⟩ := by
    unfold Lib.tailAddr
    rw [if_neg (by simp; omega)]
    rfl
  exact ⟨_, _, by rw [h4]⟩
theorem fresh_sl {B : Nat} {w : World} {v : Value} {l : Bts} (h : Lib.FreshBytes B w v l) (h0 : 0 < l.length) : Sl w (fun _ => True) v l := by
  obtain ⟨g, cap, zs, rfl, -, hlc, -, hz, hr, hb, hc, -⟩ := h
  refine .inr ⟨g, 0, cap, rfl, hlc, World.block_lt_of_cell? _ _ (hc 0 (by omega)), trivial, fun i hi => ?_⟩
  rw [Nat.zero_add, hc i (by omega)]
  have hi2 : i < zs.length := by omega
  have hx := hr zs[i] (List.getElem_mem hi2)
  have e1 : zs.getD i 0 = zs[i] := by rw [List.getD_eq_getElem?_getD, List.getElem?_eq_getElem hi2]; rfl
  have e2 : l.getD i 0 = UInt8.ofNat (zs[i]).toNat := by
    have := congrArg (fun q => q[i]?) hb
    simp only [Lib.bytesOf, List.getElem?_map, List.getElem?_take, if_pos hi, List.getElem?_eq_getElem hi2, List.getElem?_eq_getElem hi, Option.map_some, Option.some.injEq] at this
    rw [List.getD_eq_getElem?_getD, List.getElem?_eq_getElem hi, ← this]
    rfl
  rw [e1, e2]
  have e3 : (UInt8.ofNat (zs[i]).toNat).toNat = (zs[i]).toNat := by
    rw [UInt8.toNat_ofNat']
    omega
  rw [e3]
  congr 2
  omega
theorem info_bytes33 : (Tryz.prog.info? 33).map (fun i => (i.zero, i.size, i.bytes)) = some (some (.slice none 0 0), 1, 24) := by kernel_rfl

set_option maxRecDepth 100000 in
set_option maxHeartbeats 8000000 in
theorem lineBare_any (q : Value) (ch : UInt8) (v : Value) (N : Nat → Prop) (bs : Bts) (hno : Lib.indexByte bs ch < 0) (w : World) (hb : Sl w N v bs) :
    Calls Tryz.prog 97 #[.agg #[q, .bool true, .int .u8 ch.toNat, .bool false], v] w fun e w' => CutPost bs w e w' := by
  obtain ⟨w1, hw1⟩ : ∃ w1, w.alloc (.cells #[q, .bool true, .int .u8 ch.toNat, .bool false] 210) = w1 := ⟨_, rfl⟩
  have hb1 : Below w.heap.size w w1 := by rw [← hw1]; exact (Below.refl _ _).alloc (Nat.le_refl _) _
  have hk1 : Blk w1 w.heap.size #[q, .bool true, .int .u8 ch.toNat, .bool false] 210 := by rw [← hw1]; exact Blk.new _ _ _
  have c1 := hk1.cell 1 (v := .bool true) rfl
  have c2 := hk1.cell 2 (v := .int .u8 ch.toNat) rfl
  have c3 := hk1.cell 3 (v := .bool false) rfl
  have d3 := hk1.drew.cell 3 (v := .bool false) rfl
  have hix := idxc_sl w1 N v bs (hb.below hb1) ch
  obtain ⟨p, c, rfl, -, -⟩ := id hb.bs
  have HB1 := Lib.hid hb1
  have HS := Lib.hid (hb.below hb1)
  have e1 : decide (Lib.indexByte bs ch < 0) = true := by simpa using hno
  obtain ⟨ix, hix2⟩ : ∃ ix, Lib.indexByte bs ch = ix := ⟨_, rfl⟩
  rw [hix2] at hix e1
  clear hb1 hk1 hb hno hix2
  go_enter Tryz.func97, Tryz.ntmps97
  go_wp2_with fail
  try rw [hw1]
  refine hix.mono ?_
  rintro e w2 ⟨rfl, rfl⟩
  clear hix
  go_wp2_with fail
  go_region
  go_wp2_with fail
  go_ret2
  exact ⟨_, rfl, (HS.out.kept (Kept.of_below (S := fun _ => False) ((Below.refl _ _).drew)) fun _ _ _ h => h).mono fun _ _ _ => trivial, HB1.out.drew⟩

set_option maxRecDepth 100000 in
set_option maxHeartbeats 8000000 in
theorem line5_any (q : Option Addr) (cap : Nat) (v : Value) (N : Nat → Prop) (w : World) (h : SpansAt w q [(2, 2)]) (hb : Sl w N v [97, 58, 98, 58, 99]) (hcv : ∀ q n c, v = .slice q n c → c ≤ maxLen) (hg : Glo w) :
    Calls Tryz.prog 97 #[.agg #[.slice q 1 cap, .bool true, .int .u8 58, .bool false], v] w fun e w' => CutPost [98] w e w' := by
  obtain ⟨i0, hi, hz0, hz1, hz2⟩ := info_parts info_bytes33
  obtain ⟨w1, hw1⟩ : ∃ w1, w.alloc (.cells #[.slice q 1 cap, .bool true, .int .u8 58, .bool false] 210) = w1 := ⟨_, rfl⟩
  have hb1 : Below w.heap.size w w1 := by rw [← hw1]; exact (Below.refl _ _).alloc (Nat.le_refl _) _
  have hk1 : Blk w1 w.heap.size #[.slice q 1 cap, .bool true, .int .u8 58, .bool false] 210 := by rw [← hw1]; exact Blk.new _ _ _
  have c1 := hk1.cell 1 (v := .bool true) rfl
  have c2 := hk1.cell 2 (v := .int .u8 58) rfl
  have hix : Calls Tryz.prog 154 #[v, .int .u8 58] w1 fun e w' => e = .returned (.int .i64 (Lib.indexByte [97, 58, 98, 58, 99] 58)) ∧ w' = w1 := idxc_sl w1 N v _ (hb.below hb1) 58
  have hix2 : Lib.indexByte [97, 58, 98, 58, 99] 58 = 1 := by decide
  rw [hix2] at hix
  obtain ⟨g, o, c, rfl, hcap, hgl, -, hcell⟩ : ∃ g o c, v = .slice (some ⟨g, o, none⟩) 5 c ∧ 5 ≤ c ∧ g < w.heap.size ∧ N g ∧ ∀ i, i < 5 → w.cell? ⟨g, o + i, none⟩ = some (.int .u8 (([97, 58, 98, 58, 99] : Bts).getD i 0).toNat) := by
    rcases hb with ⟨h1, -⟩ | h1
    · cases h1
    · exact h1
  have hcm := hcv _ _ _ rfl
  have hbs1 : ∀ i, i < 5 → w1.cell? ⟨g, o + i, none⟩ = some (.int .u8 (([97, 58, 98, 58, 99] : Bts).getD i 0).toNat) := fun i hi => (hb1.cell (p := ⟨g, o + i, none⟩) hgl).trans (hcell i hi)
  have HB1 := Lib.hid hb1
  have HK1 := Lib.hid hk1
  have HSP := Lib.hid (h.below hb1)
  have HBS := Lib.hid hbs1
  have HG := Lib.hid hg
  have hgl1 : g < w1.heap.size := Nat.lt_of_lt_of_le hgl hb1.size
  clear hb1 hk1 hb hix2 h hbs1 hcell hcv hg
  go_enter Tryz.func97, Tryz.ntmps97
  go_wp2_with fail
  try rw [hw1]
  refine hix.mono ?_
  rintro e w2 ⟨rfl, rfl⟩
  clear hix hw1
  have hal : Below w2.heap.size w2 (w2.alloc (.cells #[.int .u8 58] 5)) := (Below.refl _ _).alloc (Nat.le_refl _) _
  obtain ⟨m, hm⟩ := (HG.out.below (HB1.out.trans (hal.mono HB1.out.size))).mx
  have hsp := Any.bytes_Split Tryz.laysSlP7 ⟨g, o, none⟩ ⟨w2.heap.size, 0, none⟩ 5 c 1 1 [97, 58, 98, 58, 99] [58] m (w2.alloc (.cells #[.int .u8 58] 5)) rfl rfl (by decide) (by decide) (fun i hi => by
    rw [show ((⟨g, o, none⟩ : Addr).add i) = ⟨g, o + i, none⟩ by simp only [Addr.add]; split <;> simp_all]
    rw [new_cell (HBS.out i hi)]
    rcases (by omega : i = 0 ∨ i = 1 ∨ i = 2 ∨ i = 3 ∨ i = 4) with rfl | rfl | rfl | rfl | rfl <;> rfl) (fun i hi => by
    obtain rfl : i = 0 := by omega
    exact (Blk.new w2 #[.int .u8 58] 5).cell 0 rfl) hcap (by decide) (by decide) (by unfold maxLen at hcm; omega) (by decide) hm
  obtain ⟨s0, s2, hsv⟩ := split5 g o c hcap
  rw [hsv] at hsp
  have hct : Lib.count (Lib.bytesOf [97, 58, 98, 58, 99]) (Lib.bytesOf [58]) = 2 := by decide
  rw [hct] at hsp
  have hsp2 : Calls Tryz.prog 159 #[.slice (some ⟨g, o, none⟩) 5 c, .slice (some ⟨w2.heap.size, 0, none⟩) 1 1] (w2.alloc (.cells #[.int .u8 58] 5)) fun e w' => e = .returned (.slice (some ⟨w2.heap.size + 1, 0, none⟩) 3 3) ∧ Blk w' (w2.heap.size + 1) #[s0, .slice (some ⟨g, o + 2, none⟩) 1 1, s2] 33 ∧ Below w2.heap.size w2 w' := by
    refine hsp.mono ?_
    rintro e w' ⟨rfl, n, rfl⟩
    refine ⟨by rw [World.size_alloc], ?_, ?_⟩
    · have := Blk.new (w2.alloc (.cells #[.int .u8 58] 5)) [s0, .slice (some ⟨g, o + 2, none⟩) 1 1, s2].toArray 33
      rw [World.size_alloc] at this
      exact this.drewN n
    · exact (hal.alloc hal.size _).trans ((below_drewN _ n).mono (by simp; omega))
  clear hsp hsv hct hal hm m
  go_wp2_with fail
  refine hsp2.mono ?_
  rintro e w3 ⟨rfl, hk3, hb3⟩
  have HK3 := Lib.hid hk3
  have HB3 := Lib.hid (HB1.out.trans (hb3.mono HB1.out.size))
  have HB23 := Lib.hid hb3
  clear hsp2 hk3 hb3
  have hs2l : w2.heap.size < w3.heap.size := by have := HK3.out.lt; omega
  go_wp2_with fail
  go_loopw [9, 10, 11, 47] (fun x9 _ _ x47 wr => ∃ (k : Nat) (vs : List Value), k ≤ 3 ∧ x47 = .int .i64 k ∧ Hid (vs = if k ≤ 1 then [] else [.slice (some ⟨g, o + 2, none⟩) 1 1]) ∧ Hid (wr.ownsRow w3.heap.size 33 1 x9 vs.length vs) ∧ Hid (Below w3.heap.size w3 wr)) (fun _ _ _ x47 _ => 3 - (intOf x47).toNat)
  case atStart => exact ⟨0, [], by omega, rfl, Lib.hid rfl, Lib.hid (World.ownsRow_nil _ _ _ _), Lib.hid (Below.refl _ _)⟩
  case round =>
    obtain ⟨k, vs, hk, rfl, HVS, HO, HBR⟩ := hrel
    obtain ⟨p, c', rfl⟩ := own_shape HO.out
    have HB := Lib.hid (HB3.out.trans (HBR.out.mono HB3.out.size))
    rcases (by omega : k = 0 ∨ k = 1 ∨ k = 2 ∨ k = 3) with rfl | rfl | rfl | rfl
    · obtain rfl : vs = [] := HVS.out
      have hkr := HK1.out.keep (HB23.out.trans (HBR.out.mono HB23.out.size)) HK1.out.lt
      have c0 := hkr.cell 0 (v := .slice q 1 cap) rfl
      have c1 := hkr.cell 1 (v := .bool true) rfl
      have c2 := hkr.cell 2 (v := .int .u8 58) rfl
      have c3 := hkr.cell 3 (v := .bool false) rfl
      have hk3 := HK3.out.keep HBR.out HK3.out.lt
      have x0 := hk3.cell 0 (v := s0) rfl
      have hha : Calls Tryz.prog 158 #[.agg #[.slice q 1 cap, .bool true, .int .u8 58, .bool false], .int .i64 1] wr fun e w' => e = .returned (.bool false) ∧ Below wr.heap.size wr w' := hasSpan_any [(2, 2)] 1 q cap (by decide) true false 58 wr (HSP.out.below (HB23.out.trans (HBR.out.mono HB23.out.size)))
      clear hkr hk3
      go_wp2_with fail
      refine hha.mono ?_
      rintro e w4 ⟨rfl, hb4⟩
      have HBR4 := Lib.hid (HBR.out.trans (hb4.mono HBR.out.size))
      have HO4 := Lib.hid (row_keep HO.out hb4)
      clear hha hb4 c0 c1 c2 c3 x0
      go_wp2_with fail
      go_roundw
      case rel => exact ⟨1, [], by omega, by go_num, Lib.hid rfl, HO4, HBR4⟩
      case measure => simp [intOf]
    · obtain rfl : vs = [] := HVS.out
      have hkr := HK1.out.keep (HB23.out.trans (HBR.out.mono HB23.out.size)) HK1.out.lt
      have c0 := hkr.cell 0 (v := .slice q 1 cap) rfl
      have c1 := hkr.cell 1 (v := .bool true) rfl
      have c2 := hkr.cell 2 (v := .int .u8 58) rfl
      have c3 := hkr.cell 3 (v := .bool false) rfl
      have hk3 := HK3.out.keep HBR.out HK3.out.lt
      have x1 := hk3.cell 1 (v := .slice (some ⟨g, o + 2, none⟩) 1 1) rfl
      have hha : Calls Tryz.prog 158 #[.agg #[.slice q 1 cap, .bool true, .int .u8 58, .bool false], .int .i64 2] wr fun e w' => e = .returned (.bool true) ∧ Below wr.heap.size wr w' := hasSpan_any [(2, 2)] 2 q cap (by decide) true false 58 wr (HSP.out.below (HB23.out.trans (HBR.out.mono HB23.out.size)))
      clear hkr hk3
      go_wp2_with fail
      refine hha.mono ?_
      rintro e w4 ⟨rfl, hb4⟩
      have HBR4 := Lib.hid (HBR.out.trans (hb4.mono HBR.out.size))
      have HO4 := Lib.hid (row_keep HO.out hb4)
      clear hha hb4 c0 c1 c2 c3 x1
      go_wp2_with (at_builtin; refine wpList_append_own _ rfl _ _ 50 rfl w3.heap.size 33 i0 (.slice none 0 0) 1 24 Tryz.underlying50 hi hz0 hz1 hz2 rfl (by decide) _ _ _ rfl (HO4.out.alloc _) ⟨w4.heap.size, 0, none⟩ 1 1 [.slice (some ⟨g, o + 2, none⟩) 1 1] rfl rfl (cell_one_new _ _ _) (by simp [Value.oneCell']) (by unfold maxLen; first | omega | (simp <;> omega)) (by first | omega | (simp <;> omega)) (by have := HBR4.out.size; simp <;> omega) ?_; intro v' w5 hown' hgrow _)
      have hb5 : Below w3.heap.size w3 w5 := (HBR4.out.alloc HBR4.out.size _).grown hgrow (by have := HBR4.out.size; simp <;> omega) fun j hj => (HO4.out.lt j hj).1
      go_roundw
      case rel => exact ⟨2, [.slice (some ⟨g, o + 2, none⟩) 1 1], by omega, by go_num, Lib.hid rfl, Lib.hid hown', Lib.hid hb5⟩
      case measure => simp [intOf]
    · obtain rfl : vs = [.slice (some ⟨g, o + 2, none⟩) 1 1] := HVS.out
      have hkr := HK1.out.keep (HB23.out.trans (HBR.out.mono HB23.out.size)) HK1.out.lt
      have c0 := hkr.cell 0 (v := .slice q 1 cap) rfl
      have c1 := hkr.cell 1 (v := .bool true) rfl
      have c2 := hkr.cell 2 (v := .int .u8 58) rfl
      have c3 := hkr.cell 3 (v := .bool false) rfl
      have hk3 := HK3.out.keep HBR.out HK3.out.lt
      have x2 := hk3.cell 2 (v := s2) rfl
      have hha : Calls Tryz.prog 158 #[.agg #[.slice q 1 cap, .bool true, .int .u8 58, .bool false], .int .i64 3] wr fun e w' => e = .returned (.bool false) ∧ Below wr.heap.size wr w' := hasSpan_any [(2, 2)] 3 q cap (by decide) true false 58 wr (HSP.out.below (HB23.out.trans (HBR.out.mono HB23.out.size)))
      clear hkr hk3
      go_wp2_with fail
      refine hha.mono ?_
      rintro e w4 ⟨rfl, hb4⟩
      have HBR4 := Lib.hid (HBR.out.trans (hb4.mono HBR.out.size))
      have HO4 := Lib.hid (row_keep HO.out hb4)
      clear hha hb4 c0 c1 c2 c3 x2
      go_wp2_with fail
      go_roundw
      case rel => exact ⟨3, [.slice (some ⟨g, o + 2, none⟩) 1 1], by omega, by go_num, Lib.hid rfl, HO4, HBR4⟩
      case measure => simp [intOf]
    · obtain rfl : vs = [.slice (some ⟨g, o + 2, none⟩) 1 1] := HVS.out
      obtain ⟨w4, hw4⟩ : ∃ w4, w4 = wr := ⟨_, rfl⟩
      subst hw4
      have hkr := HK1.out.keep (HB23.out.trans (HBR.out.mono HB23.out.size)) HK1.out.lt
      have c2 := hkr.cell 2 (v := .int .u8 58) rfl
      obtain ⟨gr, cr, hsl⟩ := own_slice HO.out
      injection hsl with e1 e2 e3
      subst e1 e3
      have hce := HO.out.cellAt 0 (by simp)
      have hal : Below w4.heap.size w4 (w4.alloc (.cells #[.int .u8 58] 5)) := (Below.refl _ _).alloc (Nat.le_refl _) _
      have hgb : w4.cell? ⟨g, o + 2, none⟩ = some (.int .u8 98) := by
        have h1 := HBS.out 2 (by omega)
        have h2 := (HB23.out.trans (HBR.out.mono HB23.out.size)).cell (p := ⟨g, o + 2, none⟩) hgl1
        exact h2.trans h1
      have hj : Calls Tryz.prog 160 #[.slice (some ⟨gr, 0, none⟩) 1 c', .slice (some ⟨w4.heap.size, 0, none⟩) 1 1] (w4.alloc (.cells #[.int .u8 58] 5)) fun e w' => ∃ v', e = .returned v' ∧ Sl w' (fun _ => True) v' [98] ∧ Below w4.heap.size w4 w' := by
        refine (Any.bytes_Join_one Tryz.laysSlJ14 gr 0 c' ⟨g, o + 2, none⟩ 1 [98] (.slice (some ⟨w4.heap.size, 0, none⟩) 1 1) (w4.alloc (.cells #[.int .u8 58] 5)) (new_cell hce _) (fun i x hx => by
          have hi : i = 0 := by
            have := (List.getElem?_eq_some_iff.1 hx).1
            simpa using this
          subst hi
          obtain rfl : 98 = x := by simpa using hx
          exact new_cell hgb _) (by decide) (by decide)).mono ?_
        rintro e w' ⟨v', rfl, hf, hb⟩
        exact ⟨v', rfl, fresh_sl hf (by simp), hal.trans (hb.mono hal.size)⟩
      clear hkr hce hal hgb
      go_wp2_with fail
      refine hj.mono ?_
      rintro e w5 ⟨v', rfl, hs5, hb5⟩
      have HS5 := Lib.hid hs5
      have HB5 := Lib.hid (HB.out.trans (hb5.mono HB.out.size))
      clear hj hs5 hb5
      go_wp2_with fail
      go_ret2
      exact ⟨v', rfl, HS5.out, HB5.out⟩

end Go.Proofs.YtjdcjdclipbjhaaGreatDoor

/-
  The walks of sync.Once.Do's parts, once and alone: load, store, lock, unlock. No condition beside the cells. (After the kit's worked proof of a once.)
-/
namespace Go.Proofs.YtjdcjdclipbjhaaGreatDoor.Rp
open Go.RowKit Go.Shelf

theorem disable (w : World) : (callFunc 218 #[]).run Tryz.prog w = .ok (.value (.tuple #[])) w := run_call_mark0 Tryz.func218 (by kernel_rfl) (by kernel_rfl) (by kernel_rfl) .disable (by kernel_rfl) w
theorem enable (w : World) : (callFunc 220 #[]).run Tryz.prog w = .ok (.value (.tuple #[])) w := run_call_mark0 Tryz.func220 (by kernel_rfl) (by kernel_rfl) (by kernel_rfl) .enable (by kernel_rfl) w
theorem acquire (a : Addr) (w : World) : (callFunc 221 #[.pointer (some a)]).run Tryz.prog w = .ok (.value (.tuple #[])) w := run_call_marked Tryz.func221 (by kernel_rfl) (by kernel_rfl) (by kernel_rfl) .acquire (by kernel_rfl) a w
theorem releaseMerge (a : Addr) (w : World) : (callFunc 223 #[.pointer (some a)]).run Tryz.prog w = .ok (.value (.tuple #[])) w := run_call_marked Tryz.func223 (by kernel_rfl) (by kernel_rfl) (by kernel_rfl) .releaseMerge (by kernel_rfl) a w

theorem load_any (a : Addr) (x : Int) (w : World) (hc : w.cell? a = some (.int .u32 x)) :
    Calls Tryz.prog 60 #[.pointer (some a)] w fun e w' => e = .returned (.bool (x != 0)) ∧ w' = w := by
  have hl := run_call_load (P := Tryz.prog) Tryz.func113 (by kernel_rfl) (by kernel_rfl) (by kernel_rfl) .u32 (by kernel_rfl) hc
  go_enter Tryz.func60, Tryz.ntmps60
  go_wp2_with fail
  go_ret
  exact ⟨rfl, rfl⟩

theorem b32_true (w : World) : Calls Tryz.prog 171 #[.bool true] w fun e w' => e = .returned (.int .u32 1) ∧ w' = w := by
  go_enter Tryz.func171, Tryz.ntmps171
  go_wp2_with fail
  go_ret
  exact ⟨rfl, rfl⟩

set_option maxRecDepth 100000 in
set_option maxHeartbeats 1600000 in
/-- Store(true), entered as a deferred call: the cell holds 1. -/
theorem store_deferred (a : Addr) (x : Value) (u : FrameMode) (w : World) (hc : w.cell? a = some x) (hz : w.frozen? a = false) :
    CallsD Tryz.prog 116 #[.pointer (some a), .bool true] u w fun e u' w' => u' = u ∧ (e = .returned (.tuple #[]) ∧ w' = w.drew.setCell a (.int .u32 1)) := by
  have hc' : w.drew.cell? a = some x := by go_simp
  have hz' : w.drew.frozen? a = false := by go_simp
  have hst := run_call_store (P := Tryz.prog) Tryz.func170 (by kernel_rfl) (by kernel_rfl) (by kernel_rfl) (by kernel_rfl) (k := .u32) (y := 1) hc' hz'
  go_enter_d Tryz.func116, Tryz.ntmps116
  go_wp2
  go_region_calls
  all_goals (go_end0; exact ⟨rfl, rfl⟩)

set_option maxRecDepth 100000 in
set_option maxHeartbeats 1600000 in
/-- Unlock, entered as a deferred call, the lock held and nobody waiting. -/
theorem unlock_deferred (a : Addr) (u : FrameMode) (w : World) (hc : w.cell? a = some (.int .i32 1)) (hz : w.frozen? a = false) :
    CallsD Tryz.prog 115 #[.pointer (some a)] u w fun e u' w' => u' = u ∧ (e = .returned (.tuple #[]) ∧ w' = w.setCell a (.int .i32 0)) := by
  have hd := disable
  have he := enable
  have hr := releaseMerge
  have hadd := run_call_add (P := Tryz.prog) Tryz.func224 (by kernel_rfl) (by kernel_rfl) (by kernel_rfl) .i32 (by kernel_rfl) (y := -1) (s := 0) hc hz (by simp [go_sem]; rfl)
  have hcv := run_convert_to_unsafe (P := Tryz.prog) (src := 363) (dst := 367) Tryz.underlying363 Tryz.underlying367 (by kernel_rfl) hc
  go_enter_d Tryz.func115, Tryz.ntmps115
  go_wp2
  go_end0
  go_wp2

set_option maxRecDepth 100000 in
set_option maxHeartbeats 1600000 in
/-- Lock, the lock free. -/
theorem lock_free (a : Addr) (w : World) (hc : w.cell? a = some (.int .i32 0)) (hz : w.frozen? a = false) :
    Calls Tryz.prog 114 #[.pointer (some a)] w fun e w' => e = .returned (.tuple #[]) ∧ w' = w.setCell a (.int .i32 1) := by
  have hd := disable
  have he := enable
  have ha := acquire
  have hcas := run_call_cas_hit (P := Tryz.prog) Tryz.func219 (by kernel_rfl) (by kernel_rfl) (by kernel_rfl) .i32 (by kernel_rfl) (y := 1) hc hz
  have hc' : (w.setCell a (.int .i32 1)).cell? a = some (.int .i32 1) := World.cell?_setCell_same w a _ hc
  have hcv := run_convert_to_unsafe (P := Tryz.prog) (src := 363) (dst := 367) Tryz.underlying363 Tryz.underlying367 (by kernel_rfl) hc'
  go_enter Tryz.func114, Tryz.ntmps114
  go_wp2
  first | go_end0 | (simp only [Exit.inBlock, Exit.then]; refine bodyPost_ret (results_none rfl _ _ _) rfl ?_) | refine bodyPost_ret (results_none rfl _ _ _) rfl ?_
  go_wp2

end Go.Proofs.YtjdcjdclipbjhaaGreatDoor.Rp

/-
  append of bytes in a region that draws its order. Condition: the bytes are known, in memory.
-/
namespace Go.Proofs.YtjdcjdclipbjhaaGreatDoor
open Go.RowKit Go.Shelf Go.Maps

set_option maxRecDepth 100000 in
theorem wp_append_bytes {o : Oper} {a : Act} {w : World} {K : Act → World → Prop} {Q : Exit → Act → World → Prop} (s x : Operand)
    (ho : o.op = .call { callee := .builtin .append, args := #[s, x], argTypes := #[33, 33] }) (base : Nat) (v : Value) (n : Nat) (xs : List Value) (hs : a.eval s = v) (hown : w.ownsRow base 5 1 v n xs)
    (xp : Option Addr) (xb : Bts) (c : Nat) (hx : a.eval x = .slice xp xb.length c) (hbs : Bs w xp xb) (h63 : n + xb.length ≤ 4294967296) (hbase : base ≤ w.heap.size)
    (h : ∀ p c' w', w'.ownsRow base 5 1 (.slice p (n + xb.length) c') (n + xb.length) (xs ++ xb.map u8V) → w.grownBy w' v.ownBlock → ((Value.slice p (n + xb.length) c').ownBlock = v.ownBlock ∨ (Value.slice p (n + xb.length) c').ownBlock = some w.heap.size) → K (a.put o.dst (.slice p (n + xb.length) c')) w') : Oper.wp Tryz.prog o a w K Q := by
  obtain ⟨i0, hi, hz0, hz1, hz2⟩ := info_parts info_byte
  have shape : ∀ {w' : World} {v' : Value} {ys : List Value}, w'.ownsRow base 5 1 v' (n + xb.length) ys → ∃ p c', v' = .slice p (n + xb.length) c' := fun hh => by
    rcases hh.2 with ⟨h1, h2⟩ | ⟨g, cap, cur, e, -⟩
    · exact ⟨none, 0, by rw [h2]; exact h1⟩
    · exact ⟨_, _, e⟩
  have own (ad : Addr) (hxp : xp = some ad) (hc : ∀ j u, (xb.map u8V)[j]? = some u → w.cell? (ad.add j) = some u) : Oper.wp Tryz.prog o a w K Q := by
    subst hxp
    obtain ⟨v', w', hr, h1, h2, -, h4⟩ := run_append_own_at (P := Tryz.prog) w base 33 o.type 5 i0 (.int .u8 0) 1 1 Tryz.underlying33 hi hz0 hz1 hz2 rfl (by decide) v n xs hown ad xb.length c (xb.map u8V) (by simp) hc (by simp [u8V, Value.oneCell']) (by unfold maxLen; omega) (by omega) hbase
    obtain ⟨p, c', rfl⟩ := shape h1
    unfold Oper.wp execOp
    simp only [ho, resolve, invoke, builtin, Sem.run_bind, Sem.run_pure, Result.andThen_ok, List.map_toArray, List.map_cons, List.map_nil, hs, hx, hr]
    exact h p c' w' h1 h2 h4
  cases xb with
  | nil =>
    cases xp with
    | some ad => exact own ad rfl fun j u hu => by simp at hu
    | none =>
      have hsrc : Src Tryz.prog i0.size 33 (.slice none 0 c) 0 [] w := Src.ofNil w Tryz.underlying33 c
      have hle : ∃ bb sl sc, v = .slice bb sl sc ∧ sl ≤ sc ∧ sl = n := by
        rcases hown.2 with ⟨h1, h2⟩ | ⟨g, cap, cur, e, -, -, hc, -⟩
        · exact ⟨_, _, _, h1, Nat.le_refl _, h2.symm⟩
        · exact ⟨_, _, _, e, hc, rfl⟩
      obtain ⟨bb, sl, sc, rfl, hle, rfl⟩ := hle
      have hr := run_append_nothing (P := Tryz.prog) w 33 33 o.type 5 i0 Tryz.underlying33 hi bb sl sc hle (.slice none 0 c) hsrc
      unfold Oper.wp execOp
      have hx' : a.eval x = .slice none 0 c := hx
      simp only [ho, resolve, invoke, builtin, Sem.run_bind, Sem.run_pure, Result.andThen_ok, List.map_toArray, List.map_cons, List.map_nil, hs, hx', hr]
      exact h bb sc _ (by simpa using hown) ⟨rfl, rfl, rfl, Nat.le_refl _, fun _ _ _ => rfl⟩ (.inl rfl)
  | cons z r =>
    obtain ⟨bb, bo, hp, hc⟩ := hbs (by simp)
    refine own _ hp fun j u hu => ?_
    rw [List.getElem?_map] at hu
    have hj : j < (z :: r).length := by
      rcases Nat.lt_or_ge j (z :: r).length with h1 | h1
      · exact h1
      · rw [List.getElem?_eq_none h1] at hu; cases hu
    rw [List.getElem?_eq_getElem hj] at hu
    simp only [Option.map_some, Option.some.injEq] at hu
    have := hc j hj
    rw [show ((⟨bb, bo, none⟩ : Addr).add j) = ⟨bb, bo + j, none⟩ by simp only [Addr.add]; split <;> simp_all, this, ← hu]
    simp [u8V, List.getD_eq_getElem?_getD, List.getElem?_eq_getElem hj]

theorem step_append_bytes {ops : Array Oper} {o : Oper} {a : Act} {w : World} {K : Act → World → Prop} {Q : Exit → Act → World → Prop} {E : Prop} (hgd : o.guard = none) (s x : Operand)
    (ho : o.op = .call { callee := .builtin .append, args := #[s, x], argTypes := #[33, 33] }) (base : Nat) (v : Value) (n : Nat) (xs : List Value) (hs : a.eval s = v) (hown : w.ownsRow base 5 1 v n xs)
    (xp : Option Addr) (xb : Bts) (c : Nat) (hx : a.eval x = .slice xp xb.length c) (hbs : Bs w xp xb) (h63 : n + xb.length ≤ 4294967296) (hbase : base ≤ w.heap.size)
    (h : ∀ p c' w', w'.ownsRow base 5 1 (.slice p (n + xb.length) c') (n + xb.length) (xs ++ xb.map u8V) → w.grownBy w' v.ownBlock → ((Value.slice p (n + xb.length) c').ownBlock = v.ownBlock ∨ (Value.slice p (n + xb.length) c').ownBlock = some w.heap.size) → K (a.put o.dst (.slice p (n + xb.length) c')) w') :
    if Region.wanted o (yielded ops a.tmps) = true then Oper.wp Tryz.prog o a w K Q else E := by
  have hw : Region.wanted o (yielded ops a.tmps) = true := by simp [Region.wanted, hgd]
  rw [if_pos hw]
  exact wp_append_bytes s x ho base v n xs hs hown xp xb c hx hbs h63 hbase h

end Go.Proofs.YtjdcjdclipbjhaaGreatDoor
