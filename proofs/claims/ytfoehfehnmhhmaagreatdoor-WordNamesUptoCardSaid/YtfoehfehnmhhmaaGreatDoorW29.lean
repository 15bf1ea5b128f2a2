/-
  The walk of Expand. Condition: lengths.
-/
import Derived.Test.YtfoehfehnmhhmaaGreatDoorW28
namespace Go.Proofs.YtfoehfehnmhhmaaGreatDoor
open Go.RowKit Go.Shelf Go.Maps

theorem tg_gap (w : World) : (Instr.typeAssert (.iface 85 (.agg #[])) 75 85 true).run Tryz.prog w = .ok (.tuple #[.agg #[], .bool true]) w := by kernel_rfl
theorem tg_mark (w : World) : (Instr.typeAssert (.iface 68 (.agg #[])) 75 85 true).run Tryz.prog w = .ok (.tuple #[.agg #[], .bool false]) w := by kernel_rfl
theorem tg_char (v : Value) (w : World) : (Instr.typeAssert (.iface 87 v) 75 85 true).run Tryz.prog w = .ok (.tuple #[.agg #[], .bool false]) w := by kernel_rfl
theorem tm_mark (w : World) : (Instr.typeAssert (.iface 68 (.agg #[])) 75 68 true).run Tryz.prog w = .ok (.tuple #[.agg #[], .bool true]) w := by kernel_rfl
theorem tm_char (v : Value) (w : World) : (Instr.typeAssert (.iface 87 v) 75 68 true).run Tryz.prog w = .ok (.tuple #[.agg #[], .bool false]) w := by kernel_rfl

def blankB (c : UInt8) : Bool := c == 32 || c == 9 || c == 10
theorem blank_any (c : UInt8) (w : World) :
    (blankB c = true → ∃ r : Int, 0 ≤ r ∧ Calls Tryz.prog 52 #[.string ⟨#[32, 9, 10]⟩, .int .u8 c.toNat] w fun e w' => e = .returned (.int .i64 r) ∧ w' = w) ∧
    (blankB c = false → Calls Tryz.prog 52 #[.string ⟨#[32, 9, 10]⟩, .int .u8 c.toNat] w fun e w' => e = .returned (.int .i64 (-1)) ∧ w' = w) := by
  have h := indexByte_any [32, 9, 10] c w
  cases hx : Wd.idx c [32, 9, 10] with
  | none =>
    rw [hx] at h
    refine ⟨fun hb => ?_, fun _ => h⟩
    have h2 := idx_mem c [32, 9, 10]
    rw [hx] at h2
    simp [blankB] at hb
    rcases hb with (rfl | rfl) | rfl <;> simp at h2
  | some n =>
    rw [hx] at h
    refine ⟨fun _ => ⟨(n : Int), by omega, h⟩, fun hb => ?_⟩
    have h2 := idx_mem c [32, 9, 10]
    rw [hx] at h2
    simp [blankB] at hb
    simp at h2
    exact absurd h2 (by simp [hb])

/-- What a round of Expand's loop knows. -/
structure ExpIn (w5 wr : World) (q : Nat) (l : List Wd.Un) (L : List Wd.Bytes) (i : Nat) (fv bv : Value) (done : List Wd.Bytes) (cur : Wd.Bytes) (there : Bool) : Prop where
  fld : FldAt wr q fv bv done cur there
  res : Wd.fieldsF (l.drop i) done cur there = L
  below : Below q w5 wr
  hd : done.length ≤ i
  hc : cur.length ≤ i

theorem FldAt.begun (w : World) : FldAt (((w.alloc (.cells #[.slice none 0 0] 23)).alloc (.cells #[.slice none 0 0] 29)).alloc (.cells #[.bool false] 4)) w.heap.size (.slice none 0 0) (.slice none 0 0) [] [] false := by
  refine ⟨((Blk.new w _ _).alloc _).alloc _, ?_, ?_, World.ownsRow_nil _ _ _ _, World.ownsRow_nil _ _ _ _, fun _ _ e => by cases e⟩
  · have := (Blk.new (w.alloc (.cells #[.slice none 0 0] 23)) #[.slice none 0 0] 29).alloc (.cells #[.bool false] 4)
    rwa [show (w.alloc (.cells #[.slice none 0 0] 23)).heap.size = w.heap.size + 1 by simp] at this
  · have := Blk.new ((w.alloc (.cells #[.slice none 0 0] 23)).alloc (.cells #[.slice none 0 0] 29)) #[.bool false] 4
    rwa [show ((w.alloc (.cells #[.slice none 0 0] 23)).alloc (.cells #[.slice none 0 0] 29)).heap.size = w.heap.size + 1 + 1 by simp] at this

set_option maxHeartbeats 3200000 in
set_option maxRecDepth 100000 in
theorem Expand_any (w : World) (B : Nat) (vv av : Value) (vars args : List Wd.Bytes) (st : Nat) (s : Wd.Bytes) (L : List Wd.Bytes) (hv : StrsAt w B vv vars) (ha : StrsAt w B av args) (hg : Glo w) (h8 : 8 ≤ w.heap.size) (hs : s.length < 1073741824)
    (hu : Wd.expand vars args st s = some L) :
    Calls Tryz.prog 29 #[.string ⟨s.toArray⟩, .agg #[vv, av, .int .i64 st]] w fun e w' => (∃ v1 v2, e = .returned (.tuple #[v1, v2, .int .i64 0]) ∧ w'.ownsRow w.heap.size 9 1 v1 L.length (L.map strV)) ∧ Below w.heap.size w w' := by
  have hmf : ∀ (fn : Fn) (first cap : Array Value) (w : World), (Instr.makeFunc fn first cap).run Tryz.prog w = .ok (.func fn first cap) w := fun _ _ _ _ => rfl
  obtain ⟨p0, n0, kk0, rfl⟩ := hv.slice
  obtain ⟨p1, n1, kk1, rfl⟩ := ha.slice
  unfold Wd.expand at hu
  rcases hrr : Wd.run (Wd.fuelOf s) (Wd.begun vars args st false) s false with _ | y
  · rw [hrr] at hu; cases hu
  rw [hrr] at hu
  simp only [Option.bind_some] at hu
  by_cases hyl : Wd.lim < y.l.length
  · rw [if_pos hyl] at hu; cases hu
  rw [if_neg hyl] at hu
  have hyl : y.l.length ≤ 4294967296 := by
    have h1 : ¬ (1073741824 < y.l.length) := hyl
    omega
  have hres : Wd.fieldsF y.l [] [] false = L := Option.some.inj hu
  have HRES := Lib.hid hres
  clear hres
  obtain ⟨O1, hO1⟩ : ∃ O : Obj, O = .cells #[.string ⟨s.toArray⟩] 9 := ⟨_, rfl⟩
  obtain ⟨O2, hO2⟩ : ∃ O : Obj, O = .cells #[.slice p0 n0 kk0, .slice p1 n1 kk1, .int .i64 st] 25 := ⟨_, rfl⟩
  have hb1 : Below w.heap.size w ((w.alloc O1).alloc O2) := ((Below.refl _ _).alloc (Nat.le_refl _) _).alloc (by simp) _
  have kw : Blk ((w.alloc O1).alloc O2) w.heap.size #[.string ⟨s.toArray⟩] 9 := by rw [hO1]; exact (Blk.new w _ _).alloc _
  have ks : Blk ((w.alloc O1).alloc O2) (w.heap.size + 1) #[.slice p0 n0 kk0, .slice p1 n1 kk1, .int .i64 st] 25 := by
    have := Blk.new (w.alloc O1) #[.slice p0 n0 kk0, .slice p1 n1 kk1, .int .i64 st] 25
    rw [← hO2, show (w.alloc O1).heap.size = w.heap.size + 1 by simp] at this
    exact this
  have k0 := ks.cell 0 rfl
  have k1 := ks.cell 1 rfl
  have k2 := ks.cell 2 rfl
  have hbeg := begun_any ((w.alloc O1).alloc O2) B _ _ vars args st false (hv.below hb1) (ha.below hb1)
  have hs1 : ((w.alloc O1).alloc O2).heap.size = w.heap.size + 2 := by simp
  have HB1 := Lib.hid hb1
  have HKW := Lib.hid kw
  have HG1 := Lib.hid (hg.below hb1 h8)
  have HS1 := Lib.hid hs1
  have HRR := Lib.hid hrr
  clear hb1 kw ks hs1 hg hv ha hu hrr
  subst hO1 hO2
  go_enter Tryz.func29, Tryz.ntmps29
  go_wp2_with fail
  refine hbeg.mono ?_
  rintro e w2 ⟨b, vv', av', rfl, hwb, hat, hb2⟩
  have hs2 := hb2.size
  rw [HS1.out] at hs2 hwb
  obtain ⟨W3, e3⟩ : ∃ W, W = w2.alloc (.cells #[.pointer (some ⟨b, 0, none⟩)] 44) := ⟨_, rfl⟩
  obtain ⟨W4, e4⟩ : ∃ W, W = W3.alloc (.cells #[.int .i64 0] 26) := ⟨_, rfl⟩
  have hb02 := HB1.out.trans (hb2.mono (by rw [HS1.out]; omega))
  have b24 : Below w2.heap.size w2 W4 := by rw [e4, e3]; exact ((Below.refl _ _).alloc (Nat.le_refl _) _).alloc (by simp) _
  have hlt := hat.blk.lt
  have hat4 := hat.below b24
  have hg4 : Glo W4 := (HG1.out.below hb2 (by rw [HS1.out]; omega)).below b24 (by omega)
  have kq : W4.cell? ⟨w2.heap.size, 0, none⟩ = some (.pointer (some ⟨b, 0, none⟩)) := by rw [e4, e3]; exact ((Blk.new w2 _ _).alloc _).cell 0 rfl
  have kq2 : W4.cell? ⟨w.heap.size, 0, none⟩ = some (.string ⟨s.toArray⟩) := ((HKW.out.keep hb2 (by rw [HS1.out]; omega)).keep b24 (by omega)).cell 0 rfl
  have hval := expand1_any W4 _ w2.heap.size w.heap.size b vv' av' _ _ y s hat4 hg4 (by omega) hs kq kq2 HRR.out
  have hs3 : W3.heap.size = w2.heap.size + 1 := by rw [e3]; simp
  have hcau := caught_expand W3 w2.heap.size w.heap.size (fun w' => ∃ v', ExIs W4 w' b vv' av' y (.slice none 0 0) v') (fun k => k = b) (by omega)
    (by rw [← e4]; exact hval.mono fun e w' ⟨h1, v', hx⟩ => ⟨h1, ⟨v', hx⟩, hx.kept.mono (by rintro k - (h | h); exact h; cases h)⟩)
  have HCAU := Lib.hid hcau
  have HAT := Lib.hid hat
  have HB02 := Lib.hid hb02
  have E3 := Lib.hid e3
  have E4 := Lib.hid e4
  clear hcau hval kq kq2 hg4 hat4 b24 hb02 e3 e4 hat hb2 hbeg
  go_wp2_with fail
  rw [← E3.out]
  refine HCAU.out.mono ?_
  rintro e w9 ⟨rfl, w8, hP, -, rfl⟩
  obtain ⟨v', hran⟩ := ran_of HAT.out HB02.out (by omega) rfl E3.out E4.out hP
  clear hP HCAU
  generalize w8.setCell ⟨W3.heap.size, 0, none⟩ (.int .i64 0) = w5 at *
  have hshape : ∃ p c, v' = .slice p y.l.length c := by
    rcases hran.at_.own.2 with ⟨h1, h2⟩ | ⟨g, cap, cur, hg, -⟩
    · exact ⟨_, _, by rw [h2]; exact h1⟩
    · exact ⟨_, _, hg⟩
  obtain ⟨pu, cu, rfl⟩ := hshape
  have hun : ∀ i (hi : i < y.l.length) wr, Below w5.heap.size w5 wr → ∃ g, pu = some ⟨g, 0, none⟩ ∧ wr.cell? ⟨g, i, none⟩ = some (unV y.l[i]) := by
    intro i hi wr hb
    rcases hran.at_.own.2 with ⟨h1, h2⟩ | ⟨g, cap, cur, hg, -, hblk, -⟩
    · omega
    · simp at hg
      obtain ⟨rfl, rfl⟩ := hg
      refine ⟨g, rfl, ?_⟩
      have h1 := hran.at_.own.cellAt i (by omega)
      rw [hb.cell (p := ⟨g, i, none⟩) (lt_of_block hblk), h1]
      simp [hi]
  have hf0 := FldAt.begun w5
  have hbb : Below w5.heap.size w5 (((w5.alloc (.cells #[.slice none 0 0] 23)).alloc (.cells #[.slice none 0 0] 29)).alloc (.cells #[.bool false] 4)) :=
    (((Below.refl _ _).alloc (Nat.le_refl _) _).alloc (by simp) _).alloc (by simp; omega) _
  have m1 : (((w5.alloc (.cells #[.slice none 0 0] 23)).alloc (.cells #[.slice none 0 0] 29)).alloc (.cells #[.bool false] 4)).cell? ⟨w2.heap.size, 0, none⟩ = some (.pointer (some ⟨b, 0, none⟩)) := (hran.ptr.keep hbb hran.ptr.lt).cell 0 rfl
  have m2 : (((w5.alloc (.cells #[.slice none 0 0] 23)).alloc (.cells #[.slice none 0 0] 29)).alloc (.cells #[.bool false] 4)).cell? ⟨b, 3, none⟩ = some (.slice pu y.l.length cu) := (hran.at_.blk.keep hbb hran.at_.blk.lt).cell 3 rfl
  have HUN := Lib.hid hun
  have HR := Lib.hid hran
  have HX0 : Hid (ExpIn w5 (((w5.alloc (.cells #[.slice none 0 0] 23)).alloc (.cells #[.slice none 0 0] 29)).alloc (.cells #[.bool false] 4)) w5.heap.size y.l L 0 (.slice none 0 0) (.slice none 0 0) [] [] false) := ⟨hf0, by rw [List.drop_zero]; exact HRES.out, hbb, Nat.le_refl _, Nat.le_refl _⟩
  clear hun hran hf0 hbb k0 k1 k2
  go_wp2_with fail
  generalize ((w5.alloc (.cells #[.slice none 0 0] 23)).alloc (.cells #[.slice none 0 0] 29)).alloc (.cells #[.bool false] 4) = w6 at *
  obtain ⟨q, hq⟩ : ∃ q, w5.heap.size = q := ⟨_, rfl⟩
  rw [hq] at HX0 HUN ⊢
  have HQ := Lib.hid hq
  clear hq m1 m2
  obtain ⟨n, hn⟩ : ∃ n, y.l.length = n := ⟨_, rfl⟩
  have HN := Lib.hid hn
  have hyl2 : n ≤ 4294967296 := by omega
  rw [hn]
  clear hn hyl
  go_loopw [14, 15, 16, 17, 31] (fun _ _ _ _ x31 wr => ∃ (i : Nat) (fv bv : Value) (done : List Wd.Bytes) (cur : Wd.Bytes) (there : Bool), i ≤ n ∧ x31 = .int .i64 i ∧ Hid (ExpIn w5 wr q y.l L i fv bv done cur there)) (fun _ _ _ _ x31 _ => n - (intOf x31).toNat)
  case atStart => exact ⟨0, _, _, _, _, _, Nat.zero_le _, rfl, HX0⟩
  case round =>
    obtain ⟨i, fv, bv, done, cur, there, hi, rfl, HX⟩ := hrel
    by_cases hlt : i < n
    · have ic : (i : Int) < (n : Int) := by omega
      have hlt2 : i < y.l.length := by rw [HN.out]; exact hlt
      obtain ⟨g, rfl, hcell⟩ := HUN.out i hlt2 wr HX.out.below
      have hres := HX.out.res
      rw [List.drop_eq_getElem_cons hlt2] at hres
      generalize y.l[i] = u at *
      have hfld := HX.out.fld
      have hd := HX.out.hd
      have hc := HX.out.hc
      have k11 : wr.cell? ⟨q + 1 + 1, 0, none⟩ = some (.bool there) := hfld.b11.cell 0 rfl
      have f11 := hfld.b11.free 0
      have hq3 := hfld.b11.lt
      cases u with
      | gap =>
        change wr.cell? _ = some (.iface 85 (.agg #[])) at hcell
        have ta := tg_gap
        have hb7 : Below wr.heap.size wr (wr.alloc (.cells #[] 85)) := (Below.refl _ _).alloc (Nat.le_refl _) _
        have hend := end_any _ q fv bv done cur there (hfld.below hb7) (by omega)
        have hres2 : Wd.fieldsF (y.l.drop (i + 1)) (if there = true then done ++ [cur] else done) [] false = L := by
          rw [Wd.fieldsF.eq_def] at hres; exact hres
        have HRES2 := Lib.hid hres2
        have HB7 := Lib.hid (HX.out.below.trans (hb7.mono (by omega)))
        have HLEN : Hid ((if there = true then done ++ [cur] else done).length ≤ i + 1) := by
          show _ ≤ _
          split
          · rw [List.length_append]; simp; omega
          · omega
        clear hres hres2 hb7 hfld
        go_wp2_with fail
        refine hend.mono ?_
        rintro e w8 ⟨rfl, ⟨fv', hf8⟩, hb8⟩
        have HX8 : Hid (ExpIn w5 w8 q y.l L (i + 1) fv' (.slice none 0 0) (if there = true then done ++ [cur] else done) [] false) := ⟨hf8, HRES2.out, HB7.out.trans hb8, HLEN.out, Nat.zero_le _⟩
        clear hend hf8 hb8 HX HRES2 HLEN
        generalize (if there = true then done ++ [cur] else done) = done' at *
        go_wp2_with fail
        refine ⟨⟨i + 1, fv', _, done', [], false, by omega, by go_num, HX8⟩, ?_⟩
        show n - ((i : Int) + 1).toNat < n - (i : Int).toNat
        omega
      | mark =>
        change wr.cell? _ = some (.iface 68 (.agg #[])) at hcell
        have ta := tg_mark
        have tb := tm_mark
        have hb7 : Below wr.heap.size wr (wr.alloc (.cells #[] 68)) := (Below.refl _ _).alloc (Nat.le_refl _) _
        have hf7 := hfld.below hb7
        have k12 : (wr.alloc (.cells #[] 68)).cell? ⟨q + 1 + 1, 0, none⟩ = some (.bool there) := hf7.b11.cell 0 rfl
        have f12 := hf7.b11.free 0
        have hmk := hfld.marked
        have hb8 : Below (wr.setCell ⟨q + 1 + 1, 0, none⟩ (.bool true)).heap.size (wr.setCell ⟨q + 1 + 1, 0, none⟩ (.bool true)) ((wr.setCell ⟨q + 1 + 1, 0, none⟩ (.bool true)).alloc (.cells #[] 68)) := (Below.refl _ _).alloc (Nat.le_refl _) _
        have hres2 : Wd.fieldsF (y.l.drop (i + 1)) done cur true = L := by
          rw [Wd.fieldsF.eq_def] at hres; exact hres
        have HX8 : Hid (ExpIn w5 _ q y.l L (i + 1) fv bv done cur true) := ⟨hmk.1.below hb8, hres2, (HX.out.below.trans hmk.2).trans (hb8.mono (by have := hmk.2.size; omega)), by omega, by omega⟩
        clear hres hres2 hb7 hfld hf7 hmk HX hb8
        go_wp2_with fail
        refine ⟨⟨i + 1, fv, bv, done, cur, true, by omega, by go_num, HX8⟩, ?_⟩
        show n - ((i : Int) + 1).toNat < n - (i : Int).toNat
        omega
      | char c qd soft =>
        change wr.cell? _ = some (.iface 87 (.agg #[.int .u8 c.toNat, .bool qd, .bool soft])) at hcell
        have ta := tg_char (.agg #[.int .u8 c.toNat, .bool qd, .bool soft])
        have tb := tm_char (.agg #[.int .u8 c.toNat, .bool qd, .bool soft])
        have tc := ta_char (.agg #[.int .u8 c.toNat, .bool qd, .bool soft])
        obtain ⟨O, hO⟩ : ∃ O : Obj, O = .cells #[.int .u8 c.toNat, .bool qd, .bool soft] 87 := ⟨_, rfl⟩
        have hb7 : Below wr.heap.size wr (wr.alloc O) := (Below.refl _ _).alloc (Nat.le_refl _) _
        have hf7 := hfld.below hb7
        have kc : Blk (wr.alloc O) wr.heap.size #[.int .u8 c.toNat, .bool qd, .bool soft] 87 := by rw [hO]; exact Blk.new wr _ _
        have kc0 := kc.cell 0 rfl
        have kc2 := kc.cell 2 rfl
        have k10 : (wr.alloc O).cell? ⟨q + 1, 0, none⟩ = some bv := hf7.b10.cell 0 rfl
        have hix := blank_any c (wr.alloc O)
        have hb9 := HX.out.below.trans (hb7.mono (show q ≤ wr.heap.size by omega))
        by_cases hin : (soft && (c == 32 || c == 9 || c == 10)) = true
        · obtain ⟨rfl, hcb⟩ : soft = true ∧ blankB c = true := by
            have := Bool.and_eq_true_iff.1 hin
            exact this
          have hend := end_any _ q fv bv done cur there hf7 (by omega)
          have hres2 : Wd.fieldsF (y.l.drop (i + 1)) (if there = true then done ++ [cur] else done) [] false = L := by
            rw [Wd.fieldsF.eq_def] at hres
            simp only at hres
            rw [if_pos hin] at hres; exact hres
          have HRES2 := Lib.hid hres2
          have HB9 := Lib.hid hb9
          have HLEN : Hid ((if there = true then done ++ [cur] else done).length ≤ i + 1) := by
            show _ ≤ _
            split
            · rw [List.length_append]; simp; omega
            · omega
          obtain ⟨r, hr0, hr⟩ := hix.1 hcb
          clear hres hres2 hb7 hfld hf7 hin hb9 kc hix k11 f11 k10 hcb
          subst hO
          go_wp2_with fail
          refine hr.mono ?_
          rintro e w7 ⟨rfl, rfl⟩
          clear hr
          go_wp2_with fail
          refine hend.mono ?_
          rintro e w8 ⟨rfl, ⟨fv', hf8⟩, hb8⟩
          have HX8 : Hid (ExpIn w5 w8 q y.l L (i + 1) fv' (.slice none 0 0) (if there = true then done ++ [cur] else done) [] false) := ⟨hf8, HRES2.out, HB9.out.trans hb8, HLEN.out, Nat.zero_le _⟩
          clear hend hf8 hb8 HX HRES2 HLEN
          generalize (if there = true then done ++ [cur] else done) = done' at *
          go_wp2_with fail
          refine ⟨⟨i + 1, fv', _, done', [], false, by omega, by go_num, HX8⟩, ?_⟩
          show n - ((i : Int) + 1).toNat < n - (i : Int).toNat
          omega
        · have hres2 : Wd.fieldsF (y.l.drop (i + 1)) done (cur ++ [c]) true = L := by
            rw [Wd.fieldsF.eq_def] at hres
            simp only at hres
            rw [if_neg hin] at hres; exact hres
          have HRES2 := Lib.hid hres2
          have HB9 := Lib.hid hb9
          have HF7 := Lib.hid hf7
          have hob := hf7.ownB.alloc (.cells #[.int .u8 c.toNat] 5)
          have HOB := Lib.hid hob
          have HCELL : Hid (∀ j u, [Value.int .u8 c.toNat][j]? = some u → ((wr.alloc O).alloc (.cells #[.int .u8 c.toNat] 5)).cell? ((⟨(wr.alloc O).heap.size, 0, none⟩ : Addr).add j) = some u) := cell_one_new _ _ _
          have hsz7 : (wr.alloc O).heap.size = wr.heap.size + 1 := by simp
          rw [hsz7] at HCELL
          have hcase : soft = false ∨ (soft = true ∧ blankB c = false) := by
            cases soft with
            | false => exact .inl rfl
            | true => exact .inr ⟨rfl, by simpa [blankB] using hin⟩
          have HIX := hix.2
          obtain ⟨i0, hi0, hz0, hz1, hz2⟩ := info_parts info_byte
          clear hres hres2 hb7 hfld hf7 hin hb9 kc hix hob k11 f11
          have hn10 : bv.ownBlock ≠ some (q + 1) := fun e => by have := (HF7.out.ownB.lt _ e).1; omega
          have hn11 : bv.ownBlock ≠ some (q + 1 + 1) := fun e => by have := (HF7.out.ownB.lt _ e).1; omega
          have HSZ7 := Lib.hid hsz7
          clear hsz7
          rcases hcase with rfl | ⟨rfl, hnb⟩
          · subst hO
            go_wp2_with (at_builtin; refine wpList_append_own_at _ rfl _ _ 29 rfl (q + 3) 5 i0 (.int .u8 0) 1 1 Tryz.underlying29 hi0 hz0 hz1 hz2 rfl (by decide) _ _ _ rfl HOB.out ⟨wr.heap.size + 1, 0, none⟩ 1 1 [.int .u8 c.toNat] (by rfl) rfl HCELL.out (by simp [Value.oneCell']) (by unfold maxLen; omega) (by omega) (by simp; omega) ?_; intro v' w6 hown' hgrow _ hv'; obtain ⟨gg2, cap2, rfl⟩ := own_slice hown'; have HK6 := Lib.hid (kept_grown ((Kept.refl _ (wr.alloc _)).alloc _) hgrow); have B10 := HF7.out.b10.kept HK6.out hn10; have B11 := HF7.out.b11.kept HK6.out hn11; have j10 := B10.cell 0 (v := bv) rfl; have j11 := B11.cell 0 (v := .bool there) rfl; have f10 := B10.free 0; have f11 := B11.free 0; have HP := Lib.hid (HF7.out.pushed (c := c) ((Kept.refl _ _).alloc _) hown' hgrow hv'); clear hown' hgrow hv' B10 B11)
            have HX8 : Hid (ExpIn w5 _ q y.l L (i + 1) fv _ done (cur ++ [c]) true) := ⟨HP.out.1, HRES2.out, HB9.out.trans HP.out.2, by omega, by rw [List.length_append]; simp; omega⟩
            clear HP HX HRES2 HK6
            refine ⟨⟨i + 1, fv, _, done, cur ++ [c], true, by omega, by go_num, HX8⟩, ?_⟩
            show n - ((i : Int) + 1).toNat < n - (i : Int).toNat
            omega
          · have hr := HIX hnb
            clear HIX hnb
            subst hO
            go_wp2_with fail
            refine hr.mono ?_
            rintro e w7 ⟨rfl, hw7⟩
            subst hw7
            clear hr
            go_wp2_with (at_builtin; refine wpList_append_own_at _ rfl _ _ 29 rfl (q + 3) 5 i0 (.int .u8 0) 1 1 Tryz.underlying29 hi0 hz0 hz1 hz2 rfl (by decide) _ _ _ rfl HOB.out ⟨wr.heap.size + 1, 0, none⟩ 1 1 [.int .u8 c.toNat] (by rfl) rfl HCELL.out (by simp [Value.oneCell']) (by unfold maxLen; omega) (by omega) (by simp; omega) ?_; intro v' w6 hown' hgrow _ hv'; obtain ⟨gg2, cap2, rfl⟩ := own_slice hown'; have HK6 := Lib.hid (kept_grown ((Kept.refl _ (wr.alloc _)).alloc _) hgrow); have B10 := HF7.out.b10.kept HK6.out hn10; have B11 := HF7.out.b11.kept HK6.out hn11; have j10 := B10.cell 0 (v := bv) rfl; have j11 := B11.cell 0 (v := .bool there) rfl; have f10 := B10.free 0; have f11 := B11.free 0; have HP := Lib.hid (HF7.out.pushed (c := c) ((Kept.refl _ _).alloc _) hown' hgrow hv'); clear hown' hgrow hv' B10 B11)
            have HX8 : Hid (ExpIn w5 _ q y.l L (i + 1) fv _ done (cur ++ [c]) true) := ⟨HP.out.1, HRES2.out, HB9.out.trans HP.out.2, by omega, by rw [List.length_append]; simp; omega⟩
            clear HP HX HRES2 HK6
            refine ⟨⟨i + 1, fv, _, done, cur ++ [c], true, by omega, by go_num, HX8⟩, ?_⟩
            show n - ((i : Int) + 1).toNat < n - (i : Int).toNat
            omega
    · obtain rfl : n = i := by omega
      have hres := HX.out.res
      have hend := end_any wr q fv bv done cur there HX.out.fld (by have := HX.out.hd; omega)
      have hL : (if there = true then done ++ [cur] else done) = L := by
        rw [← HN.out, List.drop_length] at hres
        rw [← hres, Wd.fieldsF.eq_def]
      rw [hL] at hend
      have HB := Lib.hid HX.out.below
      clear hL hres HX
      go_wp2_with fail
      refine hend.mono ?_
      rintro e w8 ⟨rfl, ⟨fv', hf8⟩, hb8⟩
      have hb58 : Below w5.heap.size w5 w8 := by rw [HQ.out]; exact HB.out.trans hb8
      have m1 : w8.drew.cell? ⟨w2.heap.size, 0, none⟩ = some (.pointer (some ⟨b, 0, none⟩)) := (HR.out.ptr.keep hb58 HR.out.ptr.lt).cell 0 rfl
      have m3 : w8.drew.cell? ⟨b, 0, none⟩ = some vv' := (HR.out.at_.blk.keep hb58 HR.out.at_.blk.lt).cell 0 rfl
      have m9 : w8.drew.cell? ⟨q, 0, none⟩ = some fv' := hf8.b9.cell 0 rfl
      have HF8 := Lib.hid hf8
      have HB58 := Lib.hid hb58
      clear hend hf8 hb8 hb58
      go_wp2_with fail
      go_region
      all_goals go_wp2_with fail
      all_goals
        go_ret3
        refine ⟨⟨_, _, rfl, ?_⟩, ?_⟩
        · exact own_mono HF8.out.ownF.drew (by have := HR.out.below.size; have := HQ.out; unfold Hid at this; omega)
        · exact (HR.out.below.trans (HB58.out.mono HR.out.below.size)).drew

end Go.Proofs.YtfoehfehnmhhmaaGreatDoor
