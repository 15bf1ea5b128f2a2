/-
  Texts of this seat put together: R18.
-/
import Derived.Test.YthdkbbkkijdhfaaGreatDoorH33

/-
  The walk of the reference's pieces, given plain's. Condition: what is told lies in memory.
-/
namespace Go.Proofs.YthdkbbkkijdhfaaGreatDoor
open Go.RowKit Go.Shelf Go.Maps

set_option maxHeartbeats 6400000 in
set_option maxRecDepth 100000 in
theorem rpieces_any (L : Nat) (hA : RPlainC L) : RPiecesC L := by
  intro r s a w hr ha hl hL
  have hrlt := Blk.lt hr
  have I : PcR w w r s a a false true (.slice none 0 0) [] := ⟨PtsAt.nil _ _, ⟨hr, Kept.refl _ _, ha, hl⟩, Nat.le_refl _, by simp, fun _ => ⟨[], TreesAt.nil _ _ (Nat.le_refl _), .inl ⟨rfl, rfl, rfl⟩⟩⟩
  have HA := Lib.hid hA
  clear hA hr
  obtain ⟨i0, hi, hz0, hz1, hz2⟩ := info_parts info_rnode
  go_enter Tryz.func30, Tryz.ntmps30
  go_wp2_with fail
  go_loopw [3, 4, 5, 6, 7] (fun x3 x4 _x5 _x6 _x7 wr => ∃ ps a1 b1 first, x4 = .bool first ∧ PcR w wr r s a a1 b1 first x3 ps) (fun _ _ _ _ _ wr => s.length - atOf wr r)
  case atStart => exact ⟨_, _, _, _, rfl, I⟩
  case round =>
    clear I
    obtain ⟨ps, a1, b1, first, rfl, I⟩ := hrel
    have c0 := I.go.rd.c0
    have c1 := I.go.rd.c1
    have c4 := I.go.rd.c4
    have HI := Lib.hid I
    have HM := Lib.hid (atOf_rf I.go.rd)
    have hwr := I.go.kept.size
    clear I
    go_upto_region 3 with fail
    go_cut [8, 9, 10, 11, 12, 13, 14, 15, 16, 17, 18, 19, 20, 21, 22, 23, 24] (fun _s8 _s9 _s10 _s11 _s12 _s13 _s14 _s15 _s16 _s17 _s18 _s19 _s20 _s21 _s22 _s23 s24 wx => s24 = .bool (decide (a1 < s.length) && !b1) ∧ wx = wr.drew)
    case first =>
      as_aux_lemma =>
        by_cases hlt : a1 < s.length
        · have hlti : (a1 : Int) < (s.length : Int) := by omega
          have HD : Hid (decide (a1 < s.length) = true) := by show _ = _; simpa using hlt
          go_wp2_with fail
          go_region
          go_wp2_with fail
          go_meet
          exact ⟨by rw [HD.out]; rfl, rfl⟩
        · have hf2 : ((a1 : Int) < (s.length : Int)) = False := by simp; omega
          have hf3 : decide ((a1 : Int) < (s.length : Int)) = false := by simp; omega
          have HD : Hid (decide (a1 < s.length) = false) := by show _ = _; simpa using hlt
          go_wp2_with fail
          go_region
          go_wp2_with fail
          go_meet
          exact ⟨by rw [HD.out]; rfl, rfl⟩
    case rest =>
      obtain ⟨rfl, rfl⟩ := hcut
      clear c0 c1 c4
      have I1 := HI.out.kept (Blk.drew HI.out.go.rd) ((Kept.refl (· = r) wr).drew) hrlt
      cases hon : decide (a1 < s.length) && !b1 with
      | false =>
        have HI1 := Lib.hid I1
        have hj0 := hon
        have HOFF : Hid (b1 = false → basOn (s.drop a1) = false ∧ s.drop a1 = []) := by
          intro hb
          rw [hb] at hon
          have : ¬ a1 < s.length := by simpa using hon
          rw [List.drop_eq_nil_of_le (by omega)]
          exact ⟨rfl, rfl⟩
        clear hon hj0 I1
        have hj := rjoined_any 4 .cat .cat _ ps w.heap.size _ HI1.out.pts HI1.out.go.kept.size (by have := HI1.out.len; omega)
        go_wp2_with fail
        refine hj.mono ?_
        rintro e w9 ⟨⟨p, rfl, hp⟩, hbl⟩
        have HP := Lib.hid hp
        clear hp hj
        go_wp2_with fail
        go_ret
        refine ⟨p, a1, b1, rfl, HI1.out.go.below hbl, HI1.out.le, fun hb => ?_⟩
        obtain ⟨l, htr, hpl⟩ := HI1.out.tr hb
        obtain ⟨free, he, -⟩ := hpl.eq (fun h => by rw [(HOFF.out hb).2] at h; cases h.2.2)
        exact ⟨_, HP.out _ l htr, he.stop (HOFF.out hb).1⟩
      | true =>
        have hb1 : b1 = false := by cases b1 <;> simp_all
        subst hb1
        have hlt : a1 < s.length := by simpa using hon
        obtain ⟨c, hx, i0'⟩ := drop_at hlt
        have hah := ahead_any r s [92, 41] a1 false false false _ I1.go.rd I1.go.le.1 hl (by decide)
        obtain ⟨SH, hSH⟩ : ∃ b, ([92, 41] : Rx.Bytes).isPrefixOf (s.drop a1) = b := ⟨_, rfl⟩
        rw [hSH] at hah
        have HSH := Lib.hid hSH
        have HX := Lib.hid hx
        have HI1 := Lib.hid I1
        clear hon hSH hx I1
        go_wp2_with fail
        refine hah.mono ?_
        rintro e w2 ⟨rfl, hb2⟩
        have I2 := HI1.out.kept (HI1.out.go.rd.keep hb2) (.of_below hb2) hrlt
        have HI2 := Lib.hid I2
        clear hah hb2
        cases SH with
        | true =>
          have HOFF : Hid (basOn (s.drop a1) = false ∧ (s.drop a1).head? ≠ some 94) := by
            constructor
            · unfold basOn; rw [HSH.out]; simp
            · intro e
              have := HSH.out
              rw [HX.out] at e this
              simp only [List.head?_cons, Option.some.injEq] at e
              subst e
              simp [List.isPrefixOf] at this
          clear I2
          have b1 : Bool := false
          have hj := rjoined_any 4 .cat .cat _ ps w.heap.size _ HI2.out.pts HI2.out.go.kept.size (by have := HI2.out.len; omega)
          go_wp2_with fail
          refine hj.mono ?_
          rintro e w9 ⟨⟨p, rfl, hp⟩, hbl⟩
          have HP := Lib.hid hp
          clear hp hj
          go_wp2_with fail
          go_ret
          refine ⟨p, a1, false, rfl, HI2.out.go.below hbl, HI2.out.le, fun hb => ?_⟩
          obtain ⟨l, htr, hpl⟩ := HI2.out.tr hb
          obtain ⟨free, he, -⟩ := hpl.eq (fun h => HOFF.out.2 h.2.2)
          exact ⟨_, HP.out _ l htr, he.stop HOFF.out.1⟩
        | false =>
          have HON : Hid (basOn (s.drop a1) = true) := by
            show _ = _
            unfold basOn
            rw [HSH.out, HX.out]
            rfl
          have c0 := I2.go.rd.c0
          have c1 := I2.go.rd.c1
          have hlti : (a1 : Int) < (s.length : Int) := by omega
          clear I2
          go_upto_region 6 with fail
          go_cut [6, 28, 29, 30, 31, 32, 33, 34, 35, 36] (fun s6 _s28 _s29 _s30 _s31 _s32 _s33 _s34 _s35 _s36 wx => s6 = .int .u8 c.toNat ∧ wx = w2.drew)
          case first =>
            as_aux_lemma =>
              go_wp2_with fail
              go_region
              go_wp2_with fail
              go_meet
              exact ⟨rfl, rfl⟩
          case rest =>
            obtain ⟨rfl, hwx⟩ := hcut
            have I3 : PcR w wc r s a a1 false first u3 ps := by
              rw [hwx]
              exact HI2.out.kept (Blk.drew HI2.out.go.rd) ((Kept.refl (· = r) w2).drew) hrlt
            have HI3 := Lib.hid I3
            have HW2 : Hid (Kept (· = r) w2 wc) := by show Kept _ _ _; rw [hwx]; exact (Kept.refl (· = r) w2).drew
            have HI0 := Lib.hid i0'
            clear hwx c0 c1 I3 i0'
            go_upto_region 7 with fail
            go_cut [37, 38, 39, 40, 41, 42, 43, 44, 45, 46] (fun _s37 _s38 _s39 _s40 _s41 _s42 _s43 _s44 _s45 s46 wx => s46 = .bool (c == 94 && (first && decide (ps.length = 0))) ∧ wx = wc)
            case first =>
              as_aux_lemma =>
                by_cases h94 : c = 94
                · subst h94
                  cases first with
                  | false =>
                    go_wp2_with fail
                    go_meet
                    exact ⟨rfl, rfl⟩
                  | true =>
                    rcases HI3.out.pts.ex with ⟨rfl, rfl⟩ | ⟨k, c9, rfl, -, -, hpos, -, -⟩
                    · go_wp2_with fail
                      go_meet
                      exact ⟨rfl, rfl⟩
                    · have hne : ¬ ((ps.length : Int) = 0) := by omega
                      have hne2 : ((ps.length : Int) == 0) = false := beq_eq_false_iff_ne.2 hne
                      have HNE : Hid (decide (ps.length = 0) = false) := by show _ = _; exact decide_eq_false (by omega)
                      go_wp2_with fail
                      go_meet
                      exact ⟨by rw [HNE.out]; rfl, rfl⟩
                · have g1 : ¬ ((c.toNat : Int) = 94) := u8_ne h94
                  have H94 : Hid ((c == 94) = false) := by show _ = _; simpa using h94
                  clear h94
                  go_wp2_with fail
                  go_meet
                  exact ⟨by rw [H94.out]; rfl, rfl⟩
            case rest =>
              obtain ⟨rfl, rfl⟩ := hcut
              obtain ⟨w3, hw3⟩ : ∃ w3, w3 = wc := ⟨_, rfl⟩
              subst hw3
              have c1 := HI3.out.go.rd.c1
              have f1 := HI3.out.go.rd.free 1
              have hle3 := HI3.out.le
              cases hbg : c == 94 && (first && decide (ps.length = 0)) with
              | true =>
                obtain ⟨rfl, rfl, hps⟩ : c = 94 ∧ first = true ∧ ps.length = 0 := by simpa using hbg
                have HG4 := Lib.hid (HI3.out.go.setAt (a1 + 1) hlt)
                have HK4 : Hid (Kept (· = r) w3 (w3.setCell ⟨r, 1, none⟩ (.int .i64 ((a1 + 1 : Nat) : Int)))) := by show Kept _ _ _; exact (Kept.refl (· = r) w3).setCell (.inl rfl) 1 _
                clear hbg
                go_upto_region 9 with fail
                show Code.wp _ _ _ _ (w3.setCell ⟨r, 1, none⟩ (.int .i64 ((a1 + 1 : Nat) : Int)))
                generalize w3.setCell ⟨r, 1, none⟩ (.int .i64 ((a1 + 1 : Nat) : Int)) = w4 at *
                clear c1 f1
                have hpt4 := HI3.out.pts.kept HK4.out (fun k hk e => by omega)
                have hown := hpt4.own
                have hce := cell_rnew2 w4 (Tryz.zeroCells68.setIfInBounds 0 (.int .i64 2))
                have hlen4 := HI3.out.len
                have hsz4 := HG4.out.kept.size
                clear hpt4
                go_wp2_with (at_builtin; refine wpList_append_own_at _ rfl _ _ 66 rfl w.heap.size 24 i0 (.pointer none) 1 8 Tryz.underlying66 hi hz0 hz1 hz2 rfl (by decide) _ _ _ rfl ((hown.alloc _).alloc _) ⟨w4.heap.size + 1, 0, none⟩ 1 1 [ptrV w4.heap.size] rfl rfl hce (by simp [ptrV, Value.oneCell']) (by unfold maxLen; omega) (by omega) (by simp; omega) ?_; intro v' w5 hown' hgrow _ hv')
                rw [rnd_new] at hgrow hv'
                have hpn := HI3.out.pushNew (f2 := true) (n := .beg) HK4.out hrlt (by omega) HG4.out (fun W M p hM hb => .beg hM hb) hown' hgrow hv' (fun l hll hpl => by
                                  have : l = [] := List.length_eq_zero_iff.1 (by omega)
                                  subst this
                                  rcases hpl with ⟨-, -, h⟩ | ⟨-, h, -⟩ | ⟨-, h, -⟩
                                  · subst h; exact .inr (.inl ⟨rfl, rfl, EQp.begin HX.out⟩)
                                  · cases h
                                  · exact absurd rfl h)
                refine ⟨⟨ps ++ [w4.heap.size], a1 + 1, false, true, rfl, hpn⟩, ?_⟩
                rw [HM.out, atOf_rf hpn.go.rd]
                omega
              | false =>
                have HBG : Hid (¬ (first = true ∧ ps.length = 0 ∧ c = 94)) := by
                  rintro ⟨rfl, h2, rfl⟩
                  simp [h2] at hbg
                have HEQ : Hid (∀ l, ps.length = l.length → PcL s a a1 first l → ∃ free, EQp s a a1 l free ∧ (free = false ↔ l ≠ [] ∧ l ≠ [.beg])) := fun l hll hpl => hpl.eq (fun h => HBG.out ⟨h.1, by rw [hll, h.2.1]; rfl, by have := h.2.2; rw [HX.out] at this; simpa using this⟩)
                have c0 := HI3.out.go.rd.c0
                clear hbg
                go_upto_region 11 with fail
                go_cut [4, 59, 60, 61, 62, 63, 64, 65, 66, 67, 68, 69, 70, 71, 72, 73, 74, 75, 76, 77, 78, 79, 80, 81, 82, 83, 84, 85, 86, 87, 88, 89, 90, 91, 92, 93, 94, 95, 96, 97, 98, 99, 100, 101, 102, 103, 104] (fun s4 _s59 _s60 _s61 _s62 _s63 _s64 _s65 _s66 _s67 _s68 _s69 _s70 _s71 _s72 _s73 _s74 _s75 _s76 _s77 _s78 _s79 _s80 _s81 _s82 _s83 _s84 _s85 _s86 _s87 _s88 _s89 _s90 _s91 _s92 _s93 _s94 _s95 _s96 _s97 _s98 _s99 _s100 _s101 _s102 _s103 s104 wx => s4 = .bool false ∧ s104 = .bool (basEnd (s.drop a1)) ∧ wx = w3.drew)
                case first =>
                  as_aux_lemma =>
                    by_cases h36 : c = 36
                    · subst h36
                      have w1' : IntKind.i64.wrap ((a1 : Int) + 1) = (a1 : Int) + 1 := by simp [IntKind.wrap, IntKind.signed, IntKind.bits]; omega
                      have w2' : IntKind.i64.wrap ((a1 : Int) + 2) = (a1 : Int) + 2 := by simp [IntKind.wrap, IntKind.signed, IntKind.bits]; omega
                      have w3' : IntKind.i64.wrap ((a1 : Int) + 3) = (a1 : Int) + 3 := by simp [IntKind.wrap, IntKind.signed, IntKind.bits]; omega
                      by_cases he : a1 + 1 = s.length
                      · have e1 : ((a1 : Int) + 1 == (s.length : Int)) = true := by rw [beq_iff_eq]; omega
                        have e2 : (a1 : Int) + 1 = (s.length : Int) := by omega
                        have HE : Hid (basEnd (s.drop a1) = true) := by
                          show _ = _
                          rw [HX.out, List.drop_eq_nil_of_le (by omega)]
                          rfl
                        go_wp2_with fail
                        go_region
                        go_wp2_with fail
                        go_meet
                        exact ⟨rfl, by rw [HE.out], rfl⟩
                      · have e1 : ((a1 : Int) + 1 == (s.length : Int)) = false := beq_eq_false_iff_ne.2 (by omega)
                        have e2 : ((a1 : Int) + 1 = (s.length : Int)) = False := eq_false (by omega)
                        by_cases h2 : a1 + 2 < s.length
                        · have e3 : ((a1 : Int) + 2 < (s.length : Int)) = True := eq_true (by omega)
                          have e4 : decide ((a1 : Int) + 2 < (s.length : Int)) = true := decide_eq_true (by omega)
                          obtain ⟨u, hu⟩ : ∃ u, (s.drop (a1 + 1)).take 2 = u := ⟨_, rfl⟩
                          have ex : (⟨s.toArray⟩ : ByteArray).extract (a1 + 1) (a1 + 3) = ⟨u.toArray⟩ := by
                            rw [← hu]
                            apply ByteArray.ext
                            simp [ByteArray.data_extract, List.take_drop]
                          have HE : Hid (basEnd (s.drop a1) = (u == [92, 41])) := by
                            show _ = _
                            rw [HX.out]
                            unfold basEnd
                            have hlen : 2 ≤ (s.drop (a1 + 1)).length := by simp; omega
                            rw [← hu]
                            match s.drop (a1 + 1), hlen with
                            | x :: y :: v, _ =>
                              rw [Bool.eq_iff_iff]
                              simp [List.isPrefixOf]
                              constructor
                              · rintro ⟨h1, h2⟩; exact ⟨h1.symm, h2.symm⟩
                              · rintro ⟨h1, h2⟩; exact ⟨h1.symm, h2.symm⟩
                          have e5 : (0 : Int) ≤ (a1 : Int) + 1 := by omega
                          have e6 : (a1 : Int) + 1 ≤ (a1 : Int) + 3 := by omega
                          have e7 : (a1 : Int) + 3 ≤ (s.length : Int) := by omega
                          have e8 : ((a1 : Int) + 1).toNat = a1 + 1 := by omega
                          have e9 : ((a1 : Int) + 3).toNat = a1 + 3 := by omega
                          clear hu
                          go_wp2_with fail
                          go_region
                          go_wp2_with fail
                          go_meet
                          exact ⟨rfl, by rw [HE.out], rfl⟩
                        · have e3 : ((a1 : Int) + 2 < (s.length : Int)) = False := eq_false (by omega)
                          have e4 : decide ((a1 : Int) + 2 < (s.length : Int)) = false := decide_eq_false (by omega)
                          have HE : Hid (basEnd (s.drop a1) = false) := by
                            show _ = _
                            rw [HX.out]
                            have hlen : (s.drop (a1 + 1)).length = 1 := by simp; omega
                            match s.drop (a1 + 1), hlen with
                            | [x], _ => simp [basEnd, List.isPrefixOf]
                          go_wp2_with fail
                          go_region
                          go_wp2_with fail
                          go_meet
                          exact ⟨rfl, by rw [HE.out], rfl⟩
                    · have g1 : ((c.toNat : Int) == 36) = false := u8_beqF h36
                      have g3 : ((c.toNat : Int) = 36) = False := eq_false (u8_ne h36)
                      have HE : Hid (basEnd (s.drop a1) = false) := by
                        show _ = _
                        rw [HX.out]
                        unfold basEnd
                        have h36' : ¬ (36 : UInt8) = c := fun e => h36 e.symm
                        simp [List.isPrefixOf, h36, h36']
                      clear h36
                      go_wp2_with fail
                      go_region
                      go_wp2_with fail
                      go_meet
                      exact ⟨rfl, by rw [HE.out], rfl⟩
                case rest =>
                  obtain ⟨rfl, rfl, hwx⟩ := hcut
                  have I4 : PcR w wc r s a a1 false first u3 ps := by
                    rw [hwx]
                    exact HI3.out.kept (Blk.drew HI3.out.go.rd) ((Kept.refl (· = r) w3).drew) hrlt
                  clear hwx c0 c1 f1
                  obtain ⟨w6, hw6⟩ : ∃ w6, w6 = wc := ⟨_, rfl⟩
                  subst hw6
                  have HI4 := Lib.hid I4
                  clear I4
                  cases hend : basEnd (s.drop a1) with
                  | true =>
                    have HEND := Lib.hid hend
                    have c1 := HI4.out.go.rd.c1
                    have f1 := HI4.out.go.rd.free 1
                    have HG4 := Lib.hid (HI4.out.go.setAt (a1 + 1) hlt)
                    have HK4 : Hid (Kept (· = r) w6 (w6.setCell ⟨r, 1, none⟩ (.int .i64 ((a1 + 1 : Nat) : Int)))) := by show Kept _ _ _; exact (Kept.refl (· = r) w6).setCell (.inl rfl) 1 _
                    clear hend
                    go_upto_region 13 with fail
                    show Code.wp _ _ _ _ (w6.setCell ⟨r, 1, none⟩ (.int .i64 ((a1 + 1 : Nat) : Int)))
                    generalize w6.setCell ⟨r, 1, none⟩ (.int .i64 ((a1 + 1 : Nat) : Int)) = w4 at *
                    clear c1 f1
                    have hpt4 := HI4.out.pts.kept HK4.out (fun k hk e => by omega)
                    have hown := hpt4.own
                    have hce := cell_rnew2 w4 (Tryz.zeroCells68.setIfInBounds 0 (.int .i64 3))
                    have hlen4 := HI4.out.len
                    have hsz4 := HG4.out.kept.size
                    clear hpt4
                    go_wp2_with (at_builtin; refine wpList_append_own_at _ rfl _ _ 66 rfl w.heap.size 24 i0 (.pointer none) 1 8 Tryz.underlying66 hi hz0 hz1 hz2 rfl (by decide) _ _ _ rfl ((hown.alloc _).alloc _) ⟨w4.heap.size + 1, 0, none⟩ 1 1 [ptrV w4.heap.size] rfl rfl hce (by simp [ptrV, Value.oneCell']) (by unfold maxLen; omega) (by omega) (by simp; omega) ?_; intro v' w5 hown' hgrow _ hv')
                    rw [rnd_new] at hgrow hv'
                    have hpn := HI4.out.pushNew (f2 := false) (n := .fin) HK4.out hrlt (by omega) HG4.out (fun W M p hM hb => .fin hM hb) hown' hgrow hv' (fun l hll hpl => by
                                          obtain ⟨free, he, -⟩ := HEQ.out l hll hpl
                                          exact .inr (.inr ⟨rfl, by simp, (by cases l <;> simp), he.end_ hlt HX.out HON.out HEND.out⟩))
                    refine ⟨⟨ps ++ [w4.heap.size], a1 + 1, false, false, rfl, hpn⟩, ?_⟩
                    rw [HM.out, atOf_rf hpn.go.rd]
                    omega
                  | false =>
                    have HEND := Lib.hid hend
                    clear hend
                    obtain ⟨l, htr, hpl⟩ := HI4.out.tr rfl
                    obtain ⟨free, heq, hfree⟩ := HEQ.out l htr.1 hpl
                    have HTR := Lib.hid htr
                    have HEQ2 := Lib.hid heq
                    have HFREE := Lib.hid hfree
                    clear htr hpl heq hfree
                    go_upto_region 14 with fail
                    go_cut [117, 118, 119, 120, 121, 122, 123, 124, 125, 126, 127, 128, 129, 130, 131, 132, 133, 134, 135, 136, 137, 138] (fun _s117 _s118 _s119 _s120 _s121 _s122 _s123 _s124 _s125 _s126 _s127 _s128 _s129 _s130 _s131 _s132 _s133 _s134 _s135 _s136 _s137 s138 wx => s138 = .bool (c == 42 && notFree l) ∧ wx = w6)
                    case first =>
                      as_aux_lemma =>
                        by_cases h42 : c = 42
                        · subst h42
                          obtain ⟨hll, hH, Ms, h2, -⟩ := HTR.out
                          rcases HI4.out.pts.ex with ⟨rfl, rfl⟩ | ⟨k, c9, rfl, -, -, hpos, -, hrow⟩
                          · obtain rfl : l = [] := List.length_eq_zero_iff.1 (by simpa using hll.symm)
                            clear h2
                            go_wp2_with fail
                            go_meet
                            exact ⟨rfl, rfl⟩
                          · by_cases h1 : ps.length = 1
                            · obtain ⟨x, rfl⟩ : ∃ x, l = [x] := List.length_eq_one_iff.1 (by omega)
                              have ck := hrow.cell 0 (by omega)
                              obtain ⟨kd, c0, hkd⟩ := (h2 0 (by simp)).kind2
                              simp only [List.getD_cons_zero] at hkd
                              generalize ps.getD 0 0 = q0 at *
                              have e1 : (ps.length : Int) = 1 := by omega
                              have e2 : ((ps.length : Int) == 1) = true := by rw [beq_iff_eq]; exact e1
                              by_cases hk : kd = 2
                              · have hxb := hkd.1 hk
                                have HNF : Hid (notFree [x] = false) := by show _ = _; rw [hxb]; rfl
                                subst hk
                                clear hkd h2 hrow hxb
                                go_wp2_with fail
                                go_meet
                                exact ⟨by rw [HNF.out]; rfl, rfl⟩
                              · have HNF : Hid (notFree [x] = true) := by
                                  show _ = _
                                  rw [notFree_iff]
                                  exact ⟨by simp, fun e => hk (hkd.2 (by simpa using e))⟩
                                have e3 : (kd == 2) = false := beq_eq_false_iff_ne.2 hk
                                clear hkd h2 hrow
                                go_wp2_with fail
                                go_meet
                                exact ⟨by rw [HNF.out]; rfl, rfl⟩
                            · have HNF : Hid (notFree l = true) := by
                                show _ = _
                                rw [notFree_iff]
                                exact ⟨fun e => by have : ps.length = 0 := by rw [hll, e]; rfl
                                                   omega, fun e => h1 (by rw [hll, e]; rfl)⟩
                              have e1 : ¬ ((ps.length : Int) = 1) := by omega
                              have e2 : ((ps.length : Int) == 1) = false := beq_eq_false_iff_ne.2 e1
                              have e3 : (0 : Int) < (ps.length : Int) := by omega
                              clear h2 hrow hll hH
                              go_wp2_with fail
                              go_meet
                              exact ⟨by rw [HNF.out]; rfl, rfl⟩
                        · have g1 : ¬ ((c.toNat : Int) = 42) := u8_ne h42
                          have H42 : Hid ((c == 42) = false) := by show _ = _; simpa using h42
                          clear h42
                          go_wp2_with fail
                          go_meet
                          exact ⟨by rw [H42.out]; rfl, rfl⟩
                    case rest =>
                      obtain ⟨rfl, rfl⟩ := hcut
                      obtain ⟨w7, hw7⟩ : ∃ w7, w7 = wc := ⟨_, rfl⟩
                      subst hw7
                      have hle4 := HI4.out.le
                      have hlen4 := HI4.out.len
                      cases hst : c == 42 && notFree l with
                      | true =>
                        obtain ⟨rfl, -⟩ : c = 42 ∧ notFree l = true := by simpa using hst
                        clear hst
                        have f4 := HI4.out.go.rd.free 4
                        have c4 := HI4.out.go.rd.c4
                        have G5 := HI4.out.go.setBad true
                        have hk5 : Kept (· = r) w7 (w7.setCell ⟨r, 4, none⟩ (.bool true)) := (Kept.refl (· = r) w7).setCell (.inl rfl) 4 _
                        have hsr := rplain_star r s a1 true _ G5.rd hlt hl HI0.out
                        have HK5 := Lib.hid hk5
                        clear G5 hk5
                        go_wp2_with fail
                        refine hsr.mono ?_
                        rintro e w8 ⟨p, rfl, G8⟩
                        have c4 := G8.rd.c4
                        have HG8 := Lib.hid G8
                        clear G8 hsr
                        go_wp2_with fail
                        have hk8 := HK5.out.trans HG8.out.kept
                        have G9 := HI4.out.go.go HG8.out.rd hk8 HG8.out.le.1
                        refine ⟨⟨ps, a1 + 1, true, false, rfl, ⟨HI4.out.pts.kept hk8 (fun k hk e => by omega), G9, by omega, by omega, fun h => by cases h⟩⟩, ?_⟩
                        rw [HM.out, atOf_rf G9.rd]
                        omega
                      | false =>
                        have HST := Lib.hid hst
                        clear hst
                        have hpl := HA.out r s a1 w7 HI4.out.go.rd hlt hl (by omega)
                        go_wp2_with fail
                        refine hpl.mono ?_
                        rintro e w8 ⟨p, a2, b2, rfl, G8, hlo, htree⟩
                        have hk8 := G8.kept
                        have G9 := HI4.out.go.go G8.rd G8.kept G8.le.1
                        have HTREE := Lib.hid htree
                        have HK8 := Lib.hid hk8
                        have HPT := HI4.out.pts.kept hk8 (fun k hk e => by omega)
                        have HPT := Lib.hid HPT
                        have c4 := G9.rd.c4
                        have HG9 := Lib.hid G9
                        clear hpl htree hk8 G8 G9
                        cases b2 with
                        | true =>
                          go_wp2_with fail
                          refine ⟨⟨ps, a2, true, false, rfl, ⟨HPT.out, HG9.out, by omega, by omega, fun h => by cases h⟩⟩, ?_⟩
                          rw [HM.out, atOf_rf HG9.out.rd]
                          omega
                        | false =>
                          obtain ⟨t, hn, hnb, hq⟩ := HTREE.out rfl
                          have hrep := rrepeated_any r p s a2 false (fun b => w7.heap.size ≤ b ∧ b < w8.heap.size) t w8 HG9.out.rd HG9.out.le hn (fun b hb => by have := HI4.out.go.kept.size; omega)
                          have HQ := Lib.hid hq
                          have HNB := Lib.hid hnb
                          clear hn hnb hq HTREE
                          go_wp2_with fail
                          refine hrep.mono ?_
                          rintro e w9 ⟨q, a3, b3, rfl, G10, hl3, ht3⟩
                          have HT3 := Lib.hid ht3
                          have hk10 : Kept (· = r) w7 w9 := HK8.out.trans G10.kept
                          have HG11 := Lib.hid (HG9.out.go G10.rd G10.kept G10.le.1)
                          have HPT := Lib.hid (HI4.out.pts.kept hk10 (fun k hk e => by omega))
                          have HPL : Hid (ps.length + 1 < 1073741825) := by show _ < _; omega
                          have HK10 := Lib.hid hk10
                          have hw9 := HG11.out.kept.size
                          have hs89 := G10.kept.size
                          clear hrep ht3 hk10 G10 c4
                          have hown := HPT.out.own
                          have hob : ∀ k, u3.ownBlock = some k → w.heap.size ≤ k := fun k e => (hown.lt k e).1
                          have HOB := Lib.hid hob
                          clear hob
                          go_wp2_with (at_builtin; refine wpList_append_own_at _ rfl _ _ 66 rfl w.heap.size 24 i0 (.pointer none) 1 8 Tryz.underlying66 hi hz0 hz1 hz2 rfl (by decide) _ _ _ rfl (hown.alloc _) ⟨w9.heap.size, 0, none⟩ 1 1 [ptrV q] rfl rfl (cell_one_new _ _ _) (by simp [ptrV, Value.oneCell']) (by unfold maxLen; omega) (by have := HPL.out; omega) (by simp; omega) ?_; intro v' w5 hown' hgrow _ hv')
                          have hgrow : (w9.alloc (.cells #[ptrV q] 24)).grownBy w5 u3.ownBlock := hgrow
                          have hv' : v'.ownBlock = u3.ownBlock ∨ v'.ownBlock = some (w9.alloc (.cells #[ptrV q] 24)).heap.size := hv'
                          have hlt2 := HI4.out.pts.own.lt
                          have G12 := HG11.out.pushed hgrow HOB.out hrlt
                          have hs8 := HK10.out.size
                          have hs9 : w9.heap.size ≤ w5.heap.size := by
                            have h1 := hgrow.size
                            have h2 : (w9.alloc (.cells #[ptrV q] 24)).heap.size = w9.heap.size + 1 := by simp
                            omega
                          have hw7s := HK8.out.size
                          refine ⟨⟨ps ++ [q], a3, b3, false, rfl, ⟨PtsAt.push hown', G12, by omega, by simp; omega, fun hb3 => ?_⟩⟩, ?_⟩
                          · obtain ⟨t2, hn2, hp2, hsh⟩ := HT3.out hb3
                            have hn3 : RtIn w9 (fun b => w7.heap.size ≤ b ∧ b < w9.heap.size) q t2 := hn2.mono fun b hb => by omega
                            have hne : l ++ [t2] ≠ [.beg] := by
                              intro e
                              have hb : t2 ≠ .beg := by
                                rcases hsh with rfl | ⟨m, n, rfl⟩
                                · exact HNB.out
                                · intro e; cases e
                              cases l with
                              | nil => simp at e; exact hb e
                              | cons x y => simp at e
                            refine ⟨l ++ [t2], ((HTR.out.kept HK10.out fun k hk _ _ e => by omega).push (H' := w9.heap.size) hn3 (fun b hb => ⟨hb.1, hb.2, by have := HI4.out.go.kept.size; omega, fun e => by have := (hlt2 b e).2; omega⟩) hs8 (Nat.le_refl _) hgrow hv').up hs9 (Nat.le_refl _), .inr (.inr ⟨rfl, by simp, hne, HEQ2.out.step hlt HX.out HON.out HEND.out ?_ HQ.out hp2 (by omega)⟩)⟩
                            have h1 := HST.out
                            cases hc : c == 42 with
                            | false => rfl
                            | true =>
                              rw [hc, Bool.true_and] at h1
                              cases free with
                              | true => rfl
                              | false =>
                                have := (notFree_iff l).2 (HFREE.out.1 rfl)
                                rw [this] at h1; cases h1
                          · rw [HM.out, atOf_rf G12.rd]
                            omega

end Go.Proofs.YthdkbbkkijdhfaaGreatDoor
