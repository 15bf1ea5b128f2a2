/-
  The walk of pattern. Conditions: lengths that no machine holds.
-/
import Derived.Test.YtfoehfehnmhhmaaGreatDoorW10
namespace Go.Proofs.YtfoehfehnmhhmaaGreatDoor
open Go.RowKit Go.Shelf Go.Maps

theorem ta_char (v : Value) (w : World) : (Instr.typeAssert (.iface 87 v) 75 87 true).run Tryz.prog w = .ok (.tuple #[v, .bool true]) w := by kernel_rfl
theorem ta_mark (w : World) : (Instr.typeAssert (.iface 68 (.agg #[])) 75 87 true).run Tryz.prog w = .ok (.tuple #[.agg #[.int .u8 0, .bool false, .bool false], .bool false]) w := by kernel_rfl
theorem ta_gap (w : World) : (Instr.typeAssert (.iface 85 (.agg #[])) 75 87 true).run Tryz.prog w = .ok (.tuple #[.agg #[.int .u8 0, .bool false, .bool false], .bool false]) w := by kernel_rfl

theorem pattern_take {l : List Wd.Un} {i : Nat} (hi : i < l.length) : Wd.pattern (l.take (i + 1)) = Wd.pattern (l.take i) ++ Wd.patternOf l[i] := by
  rw [List.take_succ_eq_append_getElem hi]
  simp only [Wd.pattern, List.flatMap_append, List.flatMap_cons, List.flatMap_nil, List.append_nil]
theorem patternOf_len (u : Wd.Un) : (Wd.patternOf u).length ≤ 2 := by
  rcases u with ⟨c, q, s⟩ | _ | _
  · cases q <;> simp [Wd.patternOf, Wd.Un.told]
  · simp [Wd.patternOf, Wd.Un.told]
  · simp [Wd.patternOf, Wd.Un.told]
theorem pattern_len (l : List Wd.Un) : (Wd.pattern l).length ≤ 2 * l.length := by
  induction l with
  | nil => simp [Wd.pattern]
  | cons u r ih =>
    have := patternOf_len u
    simp only [Wd.pattern, List.flatMap_cons, List.length_append, List.length_cons] at ih ⊢
    omega

set_option maxHeartbeats 3200000 in
set_option maxRecDepth 100000 in
theorem pattern_any (B : Nat) (v : Value) (l : List Wd.Un) (w : World) (h : w.ownsRow B 75 1 v l.length (l.map unV)) (hl : l.length ≤ 4294967296) :
    Calls Tryz.prog 89 #[v] w fun e w' => e = .returned (.string ⟨(Wd.pattern l).toArray⟩) ∧ Below w.heap.size w w' := by
  have hcell : ∀ i (hi : i < l.length), ∀ g c n, v = .slice (some ⟨g, 0, none⟩) n c → w.cell? ⟨g, i, none⟩ = some (unV l[i]) ∧ g < w.heap.size := by
    rintro i hi g c n rfl
    have h1 := h.cells (g := g) rfl i (unV l[i]) (by simp [hi])
    rw [show ((⟨g, 0, none⟩ : Addr).add i) = ⟨g, i, none⟩ by simp only [Addr.add, Nat.zero_add]; split <;> simp_all] at h1
    exact ⟨h1, World.block_lt_of_cell? _ _ h1⟩
  have HW := Lib.hid h
  obtain ⟨o, c, rfl⟩ : ∃ o c, v = .slice o l.length c := by
    rcases h.2 with ⟨h1, h2⟩ | ⟨g, cap, cur, hg, hb, r⟩
    · exact ⟨_, _, by rw [h2]; exact h1⟩
    · exact ⟨_, _, hg⟩
  have HC := Lib.hid hcell
  clear h hcell
  go_enter Tryz.func89, Tryz.ntmps89
  go_wp2_with fail
  go_loopw [5, 6, 7, 10] (fun _ _ _ x10 wr => ∃ (i : Nat), i ≤ l.length ∧ x10 = .int .i64 i ∧ Hid (Bld wr w.heap.size w.heap.size (Wd.pattern (l.take i)) ∧ Below w.heap.size w wr)) (fun _ _ _ x10 _ => l.length - (intOf x10).toNat)
  case atStart => exact ⟨0, Nat.zero_le _, rfl, Bld.fresh w, (Below.refl _ w).alloc (Nat.le_refl _) _⟩
  case round =>
    obtain ⟨i, hi, rfl, HX⟩ := hrel
    by_cases hlt : i < l.length
    · have ic : (i : Int) < (l.length : Nat) := by omega
      obtain ⟨g, rfl⟩ : ∃ g, o = some ⟨g, 0, none⟩ := by
        rcases HW.out.2 with ⟨h1, h2⟩ | ⟨g, cap, cur, hg, hb, r⟩
        · omega
        · exact ⟨g, by injection hg⟩
      obtain ⟨hc, hg⟩ := HC.out i hlt g c _ rfl
      have hc2 : wr.cell? ⟨g, i, none⟩ = some (unV l[i]) := by rw [HX.out.2.cell (p := ⟨g, i, none⟩) hg]; exact hc
      clear hc
      obtain ⟨u, hu⟩ : ∃ u, l[i] = u := ⟨_, rfl⟩
      have HJ := pattern_take hlt
      have hj := pattern_len (l.take i)
      rw [List.length_take] at hj
      rw [hu] at hc2 HJ
      have HJ' := Lib.hid HJ
      clear HJ hu
      have HB := Lib.hid HX.out
      have hbs := HB.out.2.size
      have G0 : ∀ (w2 : World), Below wr.heap.size wr w2 → Calls Tryz.prog 99 #[.pointer (some ⟨w.heap.size, 0, none⟩), .int .u8 92] w2 fun e w' => e = .returned .nilIface ∧ Hid (Bld w' w.heap.size w.heap.size (Wd.pattern (l.take i) ++ [92]) ∧ Below w.heap.size w w') := by
        intro w2 hb2
        have hb3 : Below w.heap.size wr w2 := hb2.mono hbs
        have hbl : Bld w2 w.heap.size w.heap.size (Wd.pattern (l.take i)) := Bld.below HB.out.1 hb2
        refine (writeB _ _ _ 92 w2 hbl (by omega) (Nat.le_trans hbs hb2.size)).mono ?_
        rintro e w' ⟨rfl, h1, h2⟩
        exact ⟨rfl, h1, (HB.out.2.trans hb3).trans h2⟩
      have G : ∀ (s t : Wd.Bytes) (w1 w2 : World), Wd.patternOf u = s ++ t → Hid (Bld w1 w.heap.size w.heap.size (Wd.pattern (l.take i) ++ s) ∧ Below w.heap.size w w1) → Below w1.heap.size w1 w2 → Calls Tryz.prog 39 #[.pointer (some ⟨w.heap.size, 0, none⟩), .string ⟨t.toArray⟩] w2 fun e w' => e = .returned (.tuple #[.int .i64 t.length, .nilIface]) ∧ Hid (Bld w' w.heap.size w.heap.size (Wd.pattern (l.take (i + 1))) ∧ Below w.heap.size w w') := by
        intro s t w1 w2 ht H1 hb2
        have hbs := H1.out.2.size
        have hb3 : Below w.heap.size w1 w2 := hb2.mono hbs
        have hbl : Bld w2 w.heap.size w.heap.size (Wd.pattern (l.take i) ++ s) := Bld.below H1.out.1 hb2
        have htl := patternOf_len u
        rw [ht, List.length_append] at htl
        refine (writeS _ _ _ t w2 hbl (by rw [List.length_append]; omega) (Nat.le_trans hbs hb2.size)).mono ?_
        rintro e w' ⟨rfl, h1, h2⟩
        refine ⟨rfl, ?_, (H1.out.2.trans hb3).trans h2⟩
        rw [HJ'.out, ht, ← List.append_assoc]
        exact h1
      have hn : Hid (Bld wr w.heap.size w.heap.size (Wd.pattern (l.take i) ++ []) ∧ Below w.heap.size w wr) := by
        rw [List.append_nil]; exact HB.out
      have G' := Lib.hid G
      have G0' := Lib.hid G0
      clear G G0
      cases u with
      | char k q t =>
        simp only [unV] at hc2
        have h1 := ta_char
        cases q with
        | true =>
          go_wp2_with fail
          refine (G0'.out _ ((Below.refl _ wr).alloc (Nat.le_refl _) _)).mono ?_
          rintro e w3 ⟨rfl, H3⟩
          go_wp2_with fail
          refine (told_char k true t _).mono ?_
          rintro e w2 ⟨rfl, hb2⟩
          have hG := G'.out [92] [k] w3 w2 rfl H3 hb2
          clear hb2
          go_wp2_with fail
          refine hG.mono ?_
          rintro e w4 ⟨rfl, hG2⟩
          clear hG
          go_wp2_with fail
          refine ⟨⟨i + 1, by omega, by go_num, hG2⟩, ?_⟩
          show l.length - ((i : Int) + 1).toNat < l.length - (i : Int).toNat
          omega
        | false =>
          go_wp2_with fail
          refine (told_char k false t _).mono ?_
          rintro e w2 ⟨rfl, hb2⟩
          have hG := G'.out [] [k] wr w2 rfl hn (((Below.refl _ wr).alloc (Nat.le_refl _) _).trans (hb2.mono (by simp)))
          clear hb2
          go_wp2_with fail
          refine hG.mono ?_
          rintro e w4 ⟨rfl, hG2⟩
          clear hG
          go_wp2_with fail
          refine ⟨⟨i + 1, by omega, by go_num, hG2⟩, ?_⟩
          show l.length - ((i : Int) + 1).toNat < l.length - (i : Int).toNat
          omega
      | mark =>
        simp only [unV] at hc2
        have h1 := ta_mark
        go_wp2_with fail
        refine (told_mark _).mono ?_
        rintro e w2 ⟨rfl, hb2⟩
        have hG := G'.out [] [] wr w2 rfl hn (((Below.refl _ wr).alloc (Nat.le_refl _) _).trans (hb2.mono (by simp)))
        clear hb2
        go_wp2_with fail
        refine hG.mono ?_
        rintro e w4 ⟨rfl, hG2⟩
        clear hG
        go_wp2_with fail
        refine ⟨⟨i + 1, by omega, by go_num, hG2⟩, ?_⟩
        show l.length - ((i : Int) + 1).toNat < l.length - (i : Int).toNat
        omega
      | gap =>
        simp only [unV] at hc2
        have h1 := ta_gap
        go_wp2_with fail
        refine (told_gap _).mono ?_
        rintro e w2 ⟨rfl, hb2⟩
        have hG := G'.out [] [] wr w2 rfl hn (((Below.refl _ wr).alloc (Nat.le_refl _) _).trans (hb2.mono (by simp)))
        clear hb2
        go_wp2_with fail
        refine hG.mono ?_
        rintro e w4 ⟨rfl, hG2⟩
        clear hG
        go_wp2_with fail
        refine ⟨⟨i + 1, by omega, by go_num, hG2⟩, ?_⟩
        show l.length - ((i : Int) + 1).toNat < l.length - (i : Int).toNat
        omega
    · obtain rfl : i = l.length := by omega
      have hs := stringB w.heap.size w.heap.size _ wr HX.out.1 HX.out.2.size
      rw [List.take_length] at hs
      go_wp2_with fail
      refine hs.mono ?_
      rintro e w2 ⟨rfl, hb2⟩
      have HB := Lib.hid hb2
      clear hb2 hs
      go_wp2_with fail
      go_ret
      exact ⟨rfl, HX.out.2.trans HB.out⟩

end Go.Proofs.YtfoehfehnmhhmaaGreatDoor
