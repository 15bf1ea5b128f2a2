/-
  Texts of this seat put together: O3, O4, O5.
-/
import Derived.Test.YtjdcjdclipbjhaaGreatDoorQ16
import Derived.RangeFuncNested

/-
  The walk of opt.Parse. Conditions: the arguments lie in memory; together they are short.
-/
namespace Go.Proofs.YtjdcjdclipbjhaaGreatDoor
open Go.RowKit Go.Shelf Go.Maps

theorem map_same2 {P : Program} {k : TypeId} {R : Value → Option (DataW Unit × List MemPlace)} {w w' : World} {m n : Nat} {D : DataW Unit} (h : w.ownsMap P k R m n D) (e : w'.heap[m]? = w.heap[m]?) : w'.ownsMap P k R m n D := by
  obtain ⟨es, clock, hb, F, hs, hD⟩ := h
  exact ⟨es, clock, e.trans hb, F, hs, hD⟩
theorem totL_len : ∀ l : List Bts, l.length ≤ totL l
  | [] => Nat.zero_le _
  | a :: r => by rw [totL_cons, List.length_cons]; have := totL_len r; omega
theorem Ss.below' {w w' : World} {p : Option Addr} {l : List Bts} (h : Ss w p l) (hb : Below w.heap.size w w') : Ss w' p l := h.below hb

set_option maxRecDepth 100000 in
set_option maxHeartbeats 8000000 in
theorem parse_any (spec : Bts) (hs : spec.length ≤ 1000) (l : List Bts) (p : Option Addr) (c : Nat) (hc : l.length ≤ c) (hN : totL l ≤ 1000000) (w : World) (h : Ss w p l) :
    Calls Tryz.prog 89 #[.slice p l.length c, .string ⟨spec.toArray⟩] w fun e w' => ParsePost w (Op.parse spec l) e w' := by
  have hlet := letters_any spec hs w
  obtain ⟨i0, hi0, hz0, hz1, hz2⟩ := info_parts info_opt
  have HSS := Lib.hid h
  generalize hR : Op.parse spec l = R
  have HR0 : Hid (Op.outerF (Op.kinds spec) [] l = R) := by
    show _ = _
    rw [← hR]
    unfold Op.outerF Op.parse
    cases Op.parseF (Op.kinds spec) l.length l with
    | none => rfl
    | some x => obtain ⟨a, b⟩ := x; simp
  clear h hR
  go_enter Tryz.func89, Tryz.ntmps89
  go_wp2_with fail
  go_step3
  go_wp2_with fail
  refine hlet.mono ?_
  rintro e w1 ⟨m, n, D, rfl, hm, ho, hk, hb1⟩
  clear hlet
  generalize Op.kinds spec = kf at *
  have hmlt := ho.lt
  have hsz1 := hb1.size
  have HO := Lib.hid ho
  have HK := Lib.hid hk
  have HB1 := Lib.hid hb1
  clear ho hk hb1
  have LOOK : Hid (∀ wr, Below w1.heap.size w1 wr → ∀ ch : UInt8, (Instr.lookup 277 (.map (some m)) (.int .u8 ch.toNat) false).run Tryz.prog wr = .ok (.int .i64 (kf ch)) wr) :=
    Lib.hid fun wr hb ch => look1 (map_same2 HO.out (hb.block m hmlt)) HK.out ch
  have FIN : Hid (∀ (wr w' : World) (lv ov : Value) (opts : List (UInt8 × Bts)) (rest : List Bts), R = some (opts, rest) → OptsOwn wr w1.heap.size lv opts → Below w1.heap.size w1 wr → StrsOwn w' wr.heap.size ov rest → Below wr.heap.size wr w' → ParsePost w R (.returned (.tuple #[lv, ov, .int .i64 0])) w') := Lib.hid (by
    intro wr w' lv ov opts rest hR h1 h2 h3 h4
    rw [hR]
    have z := h2.size
    refine ⟨HB1.out.trans ((h2.trans (h4.mono z)).mono hsz1), lv, ov, rfl, own_mono (own_kept h1 (Kept.of_below (S := fun _ => False) h4) fun _ _ h => h) hsz1, own_mono h3 (by omega)⟩)
  have NON : Hid (∀ (wr : World), R = none → Below w1.heap.size w1 wr → ParsePost w R (.returned (.tuple #[.slice none 0 0, .slice none 0 0, .int .i64 19])) wr) := Lib.hid (by
    intro wr hR h2
    rw [hR]
    exact ⟨HB1.out.trans (h2.mono hsz1), rfl⟩)
  go_wp2_with fail
  go_step3
  go_wp2_with fail
  go_loopw [0, 8, 9, 10, 11, 55, 58, 68, 85] (fun x0 x8 _x9 _x10 _x11 _x55 _x58 _x68 _x85 wr => ∃ (p' : Option Addr) (c' : Nat) (rest : List Bts) (opts : List (UInt8 × Bts)), x0 = .slice p' rest.length c' ∧ rest.length ≤ c' ∧ opts.length + totL rest ≤ 1000000 ∧ Hid (Ss w p' rest) ∧ Hid (OptsOwn wr w1.heap.size x8 opts) ∧ Hid (Op.outerF kf opts rest = R) ∧ Hid (Below w1.heap.size w1 wr)) (fun x0 _ _ _ _ _ _ _ _ _ => lenV x0)
  case atStart => exact ⟨p, c, l, [], rfl, hc, by simpa using hN, HSS, Lib.hid (World.ownsRow_nil _ _ _ _), HR0, Lib.hid (Below.refl _ _)⟩
  case round =>
    obtain ⟨p', c', rest, opts, rfl, hc', hN', HS, HOP, HR, HB⟩ := hrel
    clear hc hN HSS HR0
    have DONE : Hid (∀ (pp : Option Addr) (cc : Nat) (rs : List Bts), Op.outerF kf opts rest = some (opts, rs) → Hid (Ss w pp rs) → rs.length ≤ 1000000 → Calls Tryz.prog 79 #[.slice pp rs.length cc] wr fun e w' => ∃ ov, e = .returned ov ∧ ParsePost w R (.returned (.tuple #[u8, ov, .int .i64 0])) w') := Lib.hid (by
      intro pp cc rs hrs hss hl
      have hss' : Ss wr pp rs := hss.out.below (HB1.out.trans (HB.out.mono hsz1))
      refine (clone_ss wr pp rs cc hss' (by omega)).mono ?_
      rintro e w' ⟨ov, rfl, ho, hb⟩
      exact ⟨ov, rfl, FIN.out wr w' u8 ov opts rs (by rw [← hrs]; exact HR.out.symm) HOP.out HB.out ho hb⟩)
    cases rest with
    | nil =>
      have hd := DONE.out p' c' [] (Op.outer_nil _ _) HS (by simp)
      simp only [List.length_nil] at hd
      go_wp2_with fail
      refine hd.mono ?_
      rintro e w2 ⟨ov, rfl, hf⟩
      have HF := Lib.hid hf
      clear hd hf
      go_wp2_with fail
      rw [Exit.noGoto_ret]
      go_ret3
      exact HF.out
    | cons a r =>
      obtain ⟨b, o, hp', hss⟩ := HS.out (by simp)
      subst hp'
      obtain ⟨ca, hst⟩ := Ss.tail HS.out
      have hblt : b < w.heap.size := World.block_lt_of_cell? _ _ ca
      have cr := ((HB1.out.trans (HB.out.mono hsz1)).cell (p := ⟨b, o, none⟩) hblt).trans ca
      have HST := Lib.hid hst
      rw [totL_cons] at hN'
      clear hss ca hst
      unfold strV at cr
      have hasz : (⟨a.toArray⟩ : ByteArray).size = a.length := rfl
      have hl1 : (0 : Int) < ((a :: r).length : Nat) := by simp
      have hl2 : ((a :: r).length : Nat) = r.length + 1 := rfl
      have hrl : r.length ≤ totL r := totL_len r
      by_cases ha : a.length < 2
      · have hd := DONE.out (some ⟨b, o, none⟩) c' (a :: r) (Op.outer_stop _ _ _ _ (.inl ha)) HS (by simp; omega)
        have hd2 : decide ((a.length : Int) < 2) = true := by simp; omega
        simp only [hl2] at hd
        go_wp2_with fail
        refine hd.mono ?_
        rintro e w2 ⟨ov, rfl, hf⟩
        have HF := Lib.hid hf
        clear hd hf
        go_wp2_with fail
        rw [Exit.noGoto_ret]
        go_ret3
        exact HF.out
      · have hd2 : decide ((a.length : Int) < 2) = false := by simp; omega
        obtain ⟨a0, hdrop0, hbg0⟩ := byte_at (s := a) (a := 0) (by omega)
        have hhead : a.head? = some a0 := by rw [List.drop_zero] at hdrop0; rw [hdrop0]; rfl
        clear hdrop0
        by_cases h45 : a0 = 45
        · have e45 : ((a0.toNat : Int) != 45) = false := by rw [h45]; rfl
          have hc1 : (1 : Int) ≤ c' := by omega
          have hrc : r.length ≤ c' - 1 := by omega
          go_upto_region 6 with fail
          go_cut [0, 29] (fun x0 x29 wx => ∃ pn : Option Addr, x0 = .slice pn r.length (c' - 1) ∧ x29 = x0 ∧ Hid (Ss w pn r) ∧ wx = wr)
          case first =>
            rcases Nat.lt_or_ge 1 c' with hc2 | hc2
            · have hz : ¬ c' - 1 = 0 := by omega
              have hz1 : ¬ c' = 1 := by omega
              have hz2 : ¬ c' ≤ 1 := by omega
              go_wp2_with fail
              go_meet
              exact ⟨_, rfl, rfl, HST, rfl⟩
            · obtain rfl : c' = 1 := by omega
              obtain rfl : r = [] := List.eq_nil_of_length_eq_zero (by omega)
              go_wp2_with fail
              go_meet
              exact ⟨_, rfl, rfl, Lib.hid (fun h => absurd h (by simp)), rfl⟩
          case rest =>
          obtain ⟨pn, rfl, rfl, HSN, rfl⟩ := hcut
          clear HST
          by_cases hdd : a = [45, 45]
          · have hd := DONE.out pn (c' - 1) r (by rw [hdd]; exact Op.outer_dd _ _ _) HSN (by omega)
            subst hdd
            go_wp2_with fail
            refine hd.mono ?_
            rintro e w2 ⟨ov, rfl, hf⟩
            have HF := Lib.hid hf
            clear hd hf
            go_wp2_with fail
            rw [Exit.noGoto_ret]
            go_ret3
            exact HF.out
          · have hs2 : (a == [45, 45]) = false := by simpa using hdd
            have hs3 : ¬ a = [45, 45] := hdd
            have hs4 : ((⟨a.toArray⟩ : ByteArray) == ⟨#[45, 45]⟩) = false := str_ne (t := [45, 45]) hdd
            have HCT : Hid (Op.contF kf opts (a.drop 1) r = R) := by
              show _ = _
              rw [← Op.outer_word kf opts a r (by rw [hhead, h45]; rintro (h | h); exact ha h; exact h rfl) hdd]; exact HR.out
            have HA : Hid (1 ≤ a.length) := Lib.hid (by omega)
            clear DONE hd2 hbg0 hhead hdd HS HR
            go_wp2_with fail
            go_loopw [0, 8, 10, 11, 55, 58, 68, 85] (fun x0 x8 x10 _x11 _x55 _x58 _x68 _x85 wx => ∃ (p2 : Option Addr) (c2 : Nat) (rs : List Bts) (os : List (UInt8 × Bts)) (k : Nat), x0 = .slice p2 rs.length c2 ∧ rs.length ≤ c2 ∧ rs.length ≤ r.length ∧ x10 = .int .i64 k ∧ k ≤ a.length ∧ os.length + (a.length - k) + totL rs ≤ 1000000 ∧ Hid (Ss w p2 rs) ∧ Hid (OptsOwn wx w1.heap.size x8 os) ∧ Hid (Op.contF kf os (a.drop k) rs = R) ∧ Hid (Below w1.heap.size w1 wx)) (fun _ _ x10 _ _ _ _ _ _ => a.length - (intOf x10).toNat)
            case atStart => exact ⟨_, _, r, opts, 1, rfl, hrc, Nat.le_refl _, rfl, HA.out, by have := HA.out; omega, HSN, HOP, HCT, HB⟩
            case round =>
              clear HSN HOP HCT HB
              obtain ⟨p2, c2, rs, os, k, rfl, hrs, hrr, rfl, hka, hN2, HS2, HOP2, HC2, HB2⟩ := hrel
              have hwz := HB2.out.size
              by_cases hlt : k < a.length
              · obtain ⟨ch, hdrop, hbg⟩ := byte_at hlt
                have hL := LOOK.out wr HB2.out ch
                have HCD : Hid (Op.contF kf os (ch :: a.drop (k + 1)) rs = R) := Lib.hid (by rw [← hdrop]; exact HC2.out)
                clear hdrop HC2
                obtain ⟨kc, hkc⟩ : ∃ kc, kf ch = kc := ⟨_, rfl⟩
                rw [hkc] at hL
                have HKC := Lib.hid hkc
                clear hkc
                by_cases h0 : kc = 0
                · subst h0
                  have hn := NON.out wr (by rw [← HCD.out]; exact Op.cont_none kf os ch _ rs HKC.out) HB2.out
                  have HN := Lib.hid hn
                  clear hn
                  go_wp2_with fail
                  rw [Exit.noGoto_ret]
                  go_ret3
                  exact HN.out
                · have e0 : ((kc : Int) == 0) = false := by simp; omega
                  by_cases h1 : kc = 1
                  · subst h1
                    have HC3 : Hid (Op.contF kf (os ++ [(ch, [])]) (a.drop (k + 1)) rs = R) := Lib.hid (by rw [← HCD.out]; exact (Op.cont_alone kf os ch _ rs HKC.out).symm)
                    have how : wr.ownsRow w1.heap.size 280 2 u8 os.length (optVals os) := HOP2.out
                    have HOW := Lib.hid how
                    clear how
                    go_wp2_with (at_builtin; refine wpList_append_own _ rfl _ _ 206 rfl w1.heap.size 280 i0 (.agg #[.int .u8 0, .string ⟨#[]⟩]) 2 24 Tryz.underlying206 hi0 hz0 hz1 hz2 rfl (by decide) _ _ _ rfl (HOW.out.alloc _) ⟨wr.heap.size, 0, none⟩ 1 1 [.int .u8 ch.toNat, .string ⟨#[]⟩] rfl rfl (cells_new _ #[_, _] _) (by simp [Value.oneCell']) (by unfold maxLen; omega) (by omega) (by simp; omega) ?_; intro v' w5 hown' hgrow _)
                    obtain ⟨hown5, hbw5⟩ := opt_push (x := (ch, [])) HOP2.out HB2.out hwz hown' hgrow
                    have HO5 := Lib.hid hown5
                    have HB5 := Lib.hid hbw5
                    clear hown5 hbw5 hown' hgrow
                    go_roundw
                    case rel => exact ⟨_, _, rs, os ++ [(ch, [])], k + 1, rfl, hrs, hrr, by go_num, by omega, by simp; omega, HS2, HO5, HC3, HB5⟩
                    case measure => simp [intOf]; omega
                  · have e1 : ((kc : Int) == 1) = false := by simp; omega
                    have how : wr.ownsRow w1.heap.size 280 2 u8 os.length (optVals os) := HOP2.out
                    have HOW := Lib.hid how
                    clear how
                    by_cases hlt2 : k + 1 < a.length
                    · have e2 : decide (((k : Int) + 1) < a.length) = true := by simp; omega
                      have hne : a.drop (k + 1) ≠ [] := by intro h; have := congrArg List.length h; simp at this; omega
                      have HC3 : Hid (Op.outerF kf (os ++ [(ch, a.drop (k + 1))]) rs = R) := Lib.hid (by rw [← HCD.out]; exact (Op.cont_rest kf os ch _ rs (by rw [HKC.out]; exact h0) (by rw [HKC.out]; exact h1) hne).symm)
                      have hex : (⟨a.toArray⟩ : ByteArray).extract (k + 1) a.length = ⟨(a.drop (k + 1)).toArray⟩ := extract_drop a (k + 1)
                      have HOA : Hid (((wr.alloc (.cells #[.int .u8 ch.toNat, .string ⟨(a.drop (k + 1)).toArray⟩] 280)).drew).ownsRow w1.heap.size 280 2 u8 os.length (optVals os)) := Lib.hid (own_kept (HOW.out.alloc _) ((Kept.refl (fun _ => False) _).drew) fun _ _ h => h)
                      have HCE : Hid (∀ j u, [Value.int .u8 ch.toNat, .string ⟨(a.drop (k + 1)).toArray⟩][j]? = some u → ((wr.alloc (.cells #[.int .u8 ch.toNat, .string ⟨(a.drop (k + 1)).toArray⟩] 280)).drew).cell? ((⟨wr.heap.size, 0, none⟩ : Addr).add j) = some u) := Lib.hid (cells_new _ #[_, _] _)
                      clear hne
                      have b1 : (k : Int) + 1 ≤ a.length := by omega
                      have b2 : (0 : Int) ≤ (k : Int) + 1 := by omega
                      have b3 : k + 1 ≤ a.length := by omega
                      have hwr : IntKind.i64.wrap ((k : Int) + 1) = ((k + 1 : Nat) : Int) := by rw [IntKind.wrap_i64]; omega
                      go_wp2_with fail
                      go_region_law ((refine step_append_lies _ (by rfl) _ _ _ (by rfl) w1.heap.size 280 i0 _ 2 24 Tryz.underlying206 hi0 hz0 hz1 hz2 rfl (by decide) u8 os.length (optVals os) (by go_simp) HOA.out ⟨wr.heap.size, 0, none⟩ 1 1 [.int .u8 ch.toNat, .string ⟨(a.drop (k + 1)).toArray⟩] (by go_simp) (by rfl) HCE.out (by simp [Value.oneCell']) (by decide) (by unfold maxLen; omega) (by omega) (by simp; omega) (wr.heap.size + 1) (by simp) ?_; intro gg cap w7 hown7 hgrow hat hlt7))
                      all_goals
                        obtain ⟨hown5, hbw5⟩ := opt_push (x := (ch, a.drop (k + 1))) HOP2.out HB2.out hwz hown7 (show (wr.alloc (.cells #[.int .u8 ch.toNat, .string ⟨(a.drop (k + 1)).toArray⟩] 280)).grownBy w7 u8.ownBlock from ⟨hgrow.os, hgrow.tape, hgrow.output, hgrow.size, hgrow.block⟩)
                        have HO5 := Lib.hid hown5
                        have HB5 := Lib.hid hbw5
                        clear hown5 hbw5 hown7 hgrow hat hlt7
                        simp only [Act.put]
                        go_simp
                        go_wp2_with fail
                        go_roundw
                        case rel => exact ⟨_, _, rs, os ++ [(ch, a.drop (k + 1))], rfl, hrs, by simp; omega, HS2, HO5, HC3, HB5⟩
                        case measure => simp [lenV]; omega
                    · have e2 : decide (((k : Int) + 1) < a.length) = false := by simp; omega
                      have hdr : a.drop (k + 1) = [] := List.drop_of_length_le (by omega)
                      cases rs with
                      | nil =>
                        have hn := NON.out wr (by rw [← HCD.out, hdr]; exact Op.cont_miss kf os ch (by rw [HKC.out]; exact h0) (by rw [HKC.out]; exact h1)) HB2.out
                        have HN := Lib.hid hn
                        clear hn hdr
                        go_wp2_with fail
                        rw [Exit.noGoto_ret]
                        go_ret3
                        exact HN.out
                      | cons x rs =>
                        have HC3 : Hid (Op.contF kf (os ++ [(ch, x)]) [] rs = R) := Lib.hid (by rw [← HCD.out, hdr]; exact (Op.cont_next kf os ch x rs (by rw [HKC.out]; exact h0) (by rw [HKC.out]; exact h1)).symm)
                        obtain ⟨b2, o2, hp2, -⟩ := HS2.out (by simp)
                        subst hp2
                        obtain ⟨cx, hst2⟩ := Ss.tail HS2.out
                        have hb2lt : b2 < w.heap.size := World.block_lt_of_cell? _ _ cx
                        have hbww := HB1.out.trans (HB2.out.mono hsz1)
                        have cw := (hbww.cell (p := ⟨b2, o2, none⟩) hb2lt).trans cx
                        have HST2 := Lib.hid hst2
                        rw [totL_cons] at hN2
                        have hxl : (0 : Int) < ((x :: rs).length : Nat) := by simp
                        have hxl2 : ((x :: rs).length : Nat) = rs.length + 1 := rfl
                        unfold strV at cw
                        have HOA : Hid (((wr.alloc (.cells #[.int .u8 ch.toNat, .string ⟨x.toArray⟩] 280)).drew).ownsRow w1.heap.size 280 2 u8 os.length (optVals os)) := Lib.hid (own_kept (HOW.out.alloc _) ((Kept.refl (fun _ => False) _).drew) fun _ _ h => h)
                        have HCE : Hid (∀ j u, [Value.int .u8 ch.toNat, .string ⟨x.toArray⟩][j]? = some u → ((wr.alloc (.cells #[.int .u8 ch.toNat, .string ⟨x.toArray⟩] 280)).drew).cell? ((⟨wr.heap.size, 0, none⟩ : Addr).add j) = some u) := Lib.hid (cells_new _ #[_, _] _)
                        have cw2 : wr.drew.cell? ⟨b2, o2, none⟩ = some (.string ⟨x.toArray⟩) := cw
                        clear hdr cx hst2
                        go_wp2_with fail
                        go_upto_region 12 with fail
                        go_cut [8] (fun x8 wx => Hid (OptsOwn wx w1.heap.size x8 (os ++ [(ch, x)])) ∧ Hid (Below w1.heap.size w1 wx))
                        case first =>
                          go_region_law ((refine step_append_lies _ (by rfl) _ _ _ (by rfl) w1.heap.size 280 i0 _ 2 24 Tryz.underlying206 hi0 hz0 hz1 hz2 rfl (by decide) u8 os.length (optVals os) (by go_simp) HOA.out ⟨wr.heap.size, 0, none⟩ 1 1 [.int .u8 ch.toNat, .string ⟨x.toArray⟩] (by go_simp) (by rfl) HCE.out (by simp [Value.oneCell']) (by decide) (by unfold maxLen; omega) (by omega) (by simp; omega) (wr.heap.size + 1) (by simp) ?_; intro gg cap w7 hown7 hgrow hat hlt7))
                          all_goals
                            obtain ⟨hown5, hbw5⟩ := opt_push (x := (ch, x)) HOP2.out HB2.out hwz hown7 (show (wr.alloc (.cells #[.int .u8 ch.toNat, .string ⟨x.toArray⟩] 280)).grownBy w7 u8.ownBlock from ⟨hgrow.os, hgrow.tape, hgrow.output, hgrow.size, hgrow.block⟩)
                            have HO5 := Lib.hid hown5
                            have HB5 := Lib.hid hbw5
                            clear hown5 hbw5 hown7 hgrow hat hlt7
                            simp only [Act.put]
                            go_simp
                            go_wp2_with fail
                            go_meet
                            exact ⟨HO5, HB5⟩
                        case rest =>
                          obtain ⟨HO5, HB5⟩ := hcut
                          have HC4 : Hid (Op.contF kf (os ++ [(ch, x)]) (a.drop (k + 1)) rs = R) := Lib.hid (by rw [List.drop_of_length_le (by omega)]; exact HC3.out)
                          rcases Nat.lt_or_ge 1 c2 with hc2 | hc2
                          · have hz : ¬ c2 - 1 = 0 := by omega
                            have hz1 : ¬ c2 = 1 := by omega
                            have hz2 : ¬ c2 ≤ 1 := by omega
                            have hz3 : (1 : Int) ≤ c2 := by omega
                            go_wp2_with fail
                            go_roundw
                            case rel => exact ⟨_, _, rs, os ++ [(ch, x)], k + 1, rfl, by omega, by omega, by go_num, by omega, by simp; omega, HST2, HO5, HC4, HB5⟩
                            case measure => simp [intOf]; omega
                          · obtain rfl : c2 = 1 := by omega
                            obtain rfl : rs = [] := List.eq_nil_of_length_eq_zero (by omega)
                            go_wp2_with fail
                            go_roundw
                            case rel => exact ⟨_, _, [], os ++ [(ch, x)], k + 1, rfl, by simp, by simp, by go_num, by omega, by simp; omega, Lib.hid (fun h => absurd h (by simp)), HO5, HC4, HB5⟩
                            case measure => simp [intOf]; omega
              · obtain rfl : k = a.length := by omega
                have HO2 : Hid (Op.outerF kf os rs = R) := Lib.hid (by
                  rw [← HC2.out, List.drop_of_length_le (Nat.le_refl _), Op.cont_nil])
                go_wp2_with fail
                go_roundw
                case rel => exact ⟨_, _, rs, os, rfl, hrs, by omega, HS2, HOP2, HO2, HB2⟩
                case measure => simp [lenV]; omega
        · have hd := DONE.out (some ⟨b, o, none⟩) c' (a :: r) (Op.outer_stop _ _ _ _ (.inr (by rw [hhead]; simpa using h45))) HS (by simp; omega)
          have e45 : ((a0.toNat : Int) != 45) = true := by
            have := u8_lit (n := 45) h45 (by decide)
            simpa using this
          simp only [hl2] at hd
          go_wp2_with fail
          refine hd.mono ?_
          rintro e w2 ⟨ov, rfl, hf⟩
          have HF := Lib.hid hf
          clear hd hf
          go_wp2_with fail
          rw [Exit.noGoto_ret]
          go_ret3
          exact HF.out

end Go.Proofs.YtjdcjdclipbjhaaGreatDoor

/-
  The walks of opt.Has, and of Last over slices.Backward. Condition: the options lie in memory.
-/
namespace Go.Proofs.YtjdcjdclipbjhaaGreatDoor
open Go.RowKit Go.Shelf Go.Maps
attribute [local go_sem] Oper.semAt_some

/-- Options that a slice leads to. -/
def OptsAt (w : World) (p : Option Addr) (l : List (UInt8 × Bts)) : Prop := 0 < l.length → ∃ b o, p = some ⟨b, o, none⟩ ∧ b < w.heap.size ∧ ∀ i, i < l.length → w.cell? ⟨b, o + i * 2, none⟩ = some (.int .u8 (l.getD i (0, [])).1.toNat) ∧ w.cell? ⟨b, o + i * 2 + 1, none⟩ = some (strV (l.getD i (0, [])).2)
theorem OptsAt.below {w w' : World} {p : Option Addr} {l : List (UInt8 × Bts)} (h : OptsAt w p l) (hb : Below w.heap.size w w') : OptsAt w' p l := fun h0 => by
  obtain ⟨b, o, e, hlt, hc⟩ := h h0
  exact ⟨b, o, e, Nat.lt_of_lt_of_le hlt hb.size, fun i hi => ⟨(hb.cell (p := ⟨b, o + i * 2, none⟩) hlt).trans (hc i hi).1, (hb.cell (p := ⟨b, o + i * 2 + 1, none⟩) hlt).trans (hc i hi).2⟩⟩
theorem OptsOwn.at_ {w : World} {B : Nat} {v : Value} {l : List (UInt8 × Bts)} (h : OptsOwn w B v l) : ∃ p c, v = .slice p l.length c ∧ l.length ≤ c ∧ OptsAt w p l := by
  rcases h.2 with ⟨h1, h0⟩ | ⟨g, cap, cur, rfl, hb, hblk, hc, r⟩
  · refine ⟨none, 0, by rw [h0]; exact h1, by omega, fun h => by omega⟩
  · refine ⟨_, cap, rfl, hc, fun _ => ⟨g, 0, rfl, lt_of_block hblk, fun i hi => ?_⟩⟩
    obtain ⟨h1, h2⟩ := optVals_at l i hi
    rw [Nat.zero_add]
    exact ⟨by rw [h.cellAt (i * 2) (by omega)]; exact h1, by rw [h.cellAt (i * 2 + 1) (by omega)]; exact h2⟩

set_option maxRecDepth 100000 in
theorem has1_any (x c : UInt8) (s : Bts) (q : Nat) (w : World) (hq : w.cell? ⟨q, 0, none⟩ = some (.int .u8 c.toNat)) :
    Calls Tryz.prog 164 #[.agg #[.int .u8 x.toNat, strV s], .pointer (some ⟨q, 0, none⟩)] w fun e w' => e = .returned (.bool (x == c)) ∧ Below w.heap.size w w' := by
  have h1 := new_cell hq (.cells #[.int .u8 x.toNat, strV s] 280)
  have h2 := (Blk.new w #[.int .u8 x.toNat, strV s] 280).cell 0 (v := .int .u8 x.toNat) rfl
  have hb : Below w.heap.size w (w.alloc (.cells #[.int .u8 x.toNat, strV s] 280)) := (Below.refl _ _).alloc (Nat.le_refl _) _
  have e1 := u8_beq x c
  rw [e1]
  unfold strV at *
  go_enter Tryz.func164, Tryz.ntmps164
  go_wp2_with fail
  go_ret
  exact ⟨rfl, hb⟩

theorem has_take {l : List (UInt8 × Bts)} {c : UInt8} {k : Nat} (hk : k < l.length) (h : Op.has (l.take k) c = false) (hx : ((l.getD k (0, [])).1 == c) = false) : Op.has (l.take (k + 1)) c = false := by
  unfold Op.has at *
  rw [List.take_succ_eq_append_getElem hk, List.any_append, h]
  have e : l[k] = l.getD k (0, []) := by simp [List.getD_eq_getElem?_getD, List.getElem?_eq_getElem hk]
  simp only [List.any_cons, List.any_nil, Bool.or_false, Bool.false_or]
  rw [e]
  exact hx
theorem has_at {l : List (UInt8 × Bts)} {c : UInt8} {k : Nat} (hk : k < l.length) (hx : ((l.getD k (0, [])).1 == c) = true) : Op.has l c = true := by
  unfold Op.has
  rw [List.any_eq_true]
  have e : l[k] = l.getD k (0, []) := by simp [List.getD_eq_getElem?_getD, List.getElem?_eq_getElem hk]
  exact ⟨l[k], List.getElem_mem hk, by rw [e]; exact hx⟩

set_option maxRecDepth 100000 in
set_option maxHeartbeats 4000000 in
theorem idxFn_any (l : List (UInt8 × Bts)) (c : UInt8) (p : Option Addr) (cap : Nat) (_hcap : l.length ≤ cap) (hN : l.length ≤ 1000000) (q : Nat) (w : World) (h : OptsAt w p l) (hq : w.cell? ⟨q, 0, none⟩ = some (.int .u8 c.toNat)) :
    Calls Tryz.prog 217 #[.slice p l.length cap, .func (.func 164) #[] #[.pointer (some ⟨q, 0, none⟩)]] w fun e w' => (∃ i : Int, e = .returned (.int .i64 i) ∧ decide (0 ≤ i) = Op.has l c) ∧ Below w.heap.size w w' := by
  have HH := Lib.hid h
  have HQ := Lib.hid hq
  clear h hq
  go_enter Tryz.func217, Tryz.ntmps217
  go_wp2_with fail
  go_loopw [5, 8] (fun _x5 i wr => ∃ k : Nat, k ≤ l.length ∧ i = .int .i64 k ∧ Hid (Op.has (l.take k) c = false) ∧ Hid (Below w.heap.size w wr)) (fun _ i _ => l.length - (intOf i).toNat)
  case atStart => exact ⟨0, Nat.zero_le _, rfl, Lib.hid rfl, Lib.hid (Below.refl _ _)⟩
  case round =>
    obtain ⟨k, hk, rfl, hf, hb⟩ := hrel
    by_cases hlt : k < l.length
    · obtain ⟨b, o, rfl, hblt, hc⟩ := HH.out (by omega)
      obtain ⟨c1, c2⟩ := hc k hlt
      have d1 := (hb.out.cell (p := ⟨b, o + k * 2, none⟩) hblt).trans c1
      have d2 := (hb.out.cell (p := ⟨b, o + k * 2 + 1, none⟩) hblt).trans c2
      have hq' := (hb.out.cell (p := ⟨q, 0, none⟩) (World.block_lt_of_cell? _ _ HQ.out)).trans HQ.out
      obtain ⟨x, hx⟩ : ∃ x, (l.getD k (0, [])).1 = x := ⟨_, rfl⟩
      obtain ⟨s, hs⟩ : ∃ s, (l.getD k (0, [])).2 = s := ⟨_, rfl⟩
      rw [hx] at d1
      rw [hs] at d2
      have HX := Lib.hid hx
      have h1 := has1_any x c s q wr hq'
      clear c1 c2 hc hx hs hq'
      unfold strV at *
      go_wp2_with fail
      refine h1.mono ?_
      rintro e w2 ⟨rfl, hb2⟩
      have HB2 := Lib.hid (hb.out.trans (hb2.mono hb.out.size))
      clear hb2 h1
      cases hxc : (x == c) with
      | true =>
        have HA : Hid (Op.has l c = true) := has_at hlt (by rw [HX.out]; exact hxc)
        clear hxc
        go_wp2_with fail
        go_ret
        exact ⟨⟨_, rfl, by rw [HA.out]; simp⟩, HB2.out⟩
      | false =>
        have HA : Hid (Op.has (l.take (k + 1)) c = false) := has_take hlt hf.out (by rw [HX.out]; exact hxc)
        clear hxc
        go_wp2_with fail
        go_roundw
        case rel => exact ⟨k + 1, by omega, by go_num, HA, HB2⟩
        case measure => simp [intOf]; omega
    · obtain rfl : k = l.length := by omega
      have HA : Hid (Op.has l c = false) := by have := hf.out; rw [List.take_of_length_le (Nat.le_refl _)] at this; exact this
      go_wp2_with fail
      go_ret
      exact ⟨⟨_, rfl, by rw [HA.out]; rfl⟩, hb.out⟩

set_option maxRecDepth 100000 in
set_option maxHeartbeats 4000000 in
theorem hasOpt_any (l : List (UInt8 × Bts)) (c : UInt8) (p : Option Addr) (cap : Nat) (hcap : l.length ≤ cap) (hN : l.length ≤ 1000000) (w : World) (h : OptsAt w p l) :
    Calls Tryz.prog 104 #[.slice p l.length cap, .int .u8 c.toNat] w fun e w' => e = .returned (.bool (Op.has l c)) ∧ Below w.heap.size w w' := by
  have hmf : ∀ (fn : Fn) (first cap : Array Value) (w : World), (Instr.makeFunc fn first cap).run Tryz.prog w = .ok (.func fn first cap) w := fun _ _ _ _ => rfl
  have hb1 : Below w.heap.size w (w.alloc (.cells #[.int .u8 c.toNat] 5)) := (Below.refl _ _).alloc (Nat.le_refl _) _
  have hi := idxFn_any l c p cap hcap hN w.heap.size _ (h.below hb1) ((Blk.new w #[.int .u8 c.toNat] 5).cell 0 rfl)
  have hcf : Calls Tryz.prog 163 #[.slice p l.length cap, .func (.func 164) #[] #[.pointer (some ⟨w.heap.size, 0, none⟩)]] (w.alloc (.cells #[.int .u8 c.toNat] 5)) fun e w' => e = .returned (.bool (Op.has l c)) ∧ Below w.heap.size w w' := by
    clear h
    go_enter Tryz.func163, Tryz.ntmps163
    go_wp2_with fail
    refine hi.mono ?_
    rintro e w2 ⟨⟨i, rfl, hd⟩, hb2⟩
    have HD := Lib.hid hd
    have HB := Lib.hid (hb1.trans (hb2.mono hb1.size))
    clear hd hb2 hi hb1
    go_wp2_with fail
    go_ret
    exact ⟨by rw [HD.out]; rfl, HB.out⟩
  clear hi h hb1
  go_enter Tryz.func104, Tryz.ntmps104
  go_wp2_with fail
  refine hcf.mono ?_
  rintro e w2 ⟨rfl, hb2⟩
  have HB := Lib.hid hb2
  clear hb2 hcf
  go_wp2_with fail
  go_ret
  exact ⟨rfl, HB.out⟩

end Go.Proofs.YtjdcjdclipbjhaaGreatDoor

/-
  The walk of opt.Last over slices.Backward. Condition: the options lie in memory.
-/
namespace Go.Proofs.YtjdcjdclipbjhaaGreatDoor
open Go.RowKit Go.Shelf Go.Maps
attribute [local go_sem] Oper.semAt_some

abbrev OptA := UInt8 × Bts
/-- What comes from behind. -/
def fromEnd (l : List OptA) (j : Nat) : Int × OptA := ((l.length : Int) - 1 - j, l.getD (l.length - 1 - j) (0, []))
def upto (f : Nat → Int × OptA) (k : Nat) : List (Int × OptA) := (List.range k).map f
theorem upto_succ (f : Nat → Int × OptA) (k : Nat) : upto f (k + 1) = upto f k ++ [f k] := by simp [upto, List.range_succ]
theorem upto_length (f : Nat → Int × OptA) (k : Nat) : (upto f k).length = k := by simp [upto]
def encO (x : Int × OptA) : Array Value := #[.int .i64 x.1, .agg #[.int .u8 x.2.1.toNat, strV x.2.2]]

set_option maxRecDepth 100000 in
set_option maxHeartbeats 4000000 in
theorem back1_in (F : Fence) (n : Nat) (hF : F.fn 216) (hro : F.round = none) (hn : 1 ≤ n) (l Bs n₀ : Nat) (L : List OptA) (p : Option Addr) (cap : Nat) (_hcap : L.length ≤ cap) (hN : L.length ≤ 1000000) (J Jx : List (Int × OptA) → World → Prop)
    (hY : ∀ pre x W, J pre W → pre.length < L.length → YieldAt F (n - 1) Tryz.prog l (encO x) W fun e W' =>
      (e = .returned (.bool true) ∧ J (pre ++ [x]) W' ∧ Below n₀ W W') ∨ (e = .returned (.bool false) ∧ Jx (pre ++ [x]) W'))
    (w W : World) (hw : Below w.heap.size w W) (hn0 : n₀ = w.heap.size) (hBs : W.cell? ⟨Bs, 0, none⟩ = some (.slice p L.length cap)) (hBl : Bs < n₀) (hO : OptsAt w p L) (h0 : J [] W) :
    CallsIn F n Tryz.prog 216 #[.func (.yield l) #[] #[], .pointer (some ⟨Bs, 0, none⟩)] W fun e W' => (∃ v, e = .returned v) ∧
      ((∃ ys, ys = upto (fromEnd L) L.length ∧ J ys W') ∨ (∃ pre, (∃ k, k ≤ L.length ∧ pre = upto (fromEnd L) k) ∧ Jx pre W')) := by
  have HO := Lib.hid hO
  have HW := Lib.hid hw
  clear hO hw
  refine callsIn_of_wp Tryz.func216 rfl hF ?_ hro
  simp only [Tryz.ntmps216, List.size_toArray, List.length_cons, List.length_nil, Nat.reduceAdd, Nat.reduceSub, Array.replicate_succ, Array.replicate_zero, List.push_toArray, List.append_toArray, List.nil_append, List.cons_append]
  gi_wp2
  gi_loopw [3] (fun i wr => ∃ k : Nat, k ≤ L.length ∧ i = .int .i64 ((L.length : Int) - 1 - k) ∧ J (upto (fromEnd L) k) wr ∧ Hid (Below n₀ W wr)) (fun i _ => (intOf i + 1).toNat)
  case atStart => exact ⟨0, Nat.zero_le _, by simp, h0, Lib.hid (Below.refl _ _)⟩
  case round =>
    obtain ⟨k, hk, rfl, hJs, hnx⟩ := hrel
    by_cases hlt : k < L.length
    · obtain ⟨fn, tmps, assign, body, hy, hR⟩ := hY _ (fromEnd L k) wr hJs (by rw [upto_length]; exact hlt)
      obtain ⟨b, o, rfl, hblt, hc⟩ := HO.out (by omega)
      obtain ⟨j, hj⟩ : ∃ j : Nat, j = L.length - 1 - k := ⟨_, rfl⟩
      obtain ⟨c1, c2⟩ := hc j (by omega)
      have hji : (L.length : Int) - 1 - k = j := by omega
      have hbw : Below w.heap.size w wr := HW.out.trans (hn0 ▸ hnx.out)
      have d1 := (hbw.cell (p := ⟨b, o + j * 2, none⟩) hblt).trans c1
      have d2 := (hbw.cell (p := ⟨b, o + j * 2 + 1, none⟩) hblt).trans c2
      have hBs' := (hnx.out.cell (p := ⟨Bs, 0, none⟩) hBl).trans hBs
      have hfe : fromEnd L k = ((j : Int), L.getD j (0, [])) := by unfold fromEnd; rw [hji, hj]
      have HFE := Lib.hid hfe
      rw [hfe] at hy
      unfold encO at hy
      dsimp only at hy
      rw [hji]
      have hjl : j < L.length := by omega
      clear hc c1 c2 hbw hfe
      generalize (L.getD j (0, [])).1 = x1 at *
      generalize (L.getD j (0, [])).2 = x2 at *
      unfold strV at *
      have hj0 : (0 : Int) ≤ j := by omega
      have hstep : (j : Int) - 1 = (L.length : Int) - 1 - ((k + 1 : Nat) : Int) := by omega
      have HST := Lib.hid hstep
      have HJJ := Lib.hid hj
      clear hstep hji hj
      gi_wp2
      refine hR.mono ?_
      rintro e W3 (⟨rfl, hJ3, hk3⟩ | ⟨rfl, hJx3⟩)
      · have HK3 := Lib.hid (hnx.out.trans hk3)
        have HJ3 : Hid (J (upto (fromEnd L) (k + 1)) W3) := Lib.hid (by rw [upto_succ]; exact hJ3)
        clear hk3 hJ3
        gi_wp2
        go_roundw
        case rel => exact ⟨k + 1, by omega, by rw [← HST.out], HJ3.out, HK3⟩
        case measure => simp [intOf]
      · have HJ3 : Hid (Jx (upto (fromEnd L) (k + 1)) W3) := Lib.hid (by rw [upto_succ]; exact hJx3)
        clear hJx3
        gi_wp2
        refine bodyPost_ret (results_none rfl _ _ _) rfl ?_
        exact ⟨⟨_, rfl⟩, .inr ⟨_, ⟨k + 1, by omega, rfl⟩, HJ3.out⟩⟩
    · obtain rfl : k = L.length := by omega
      have hz : (L.length : Int) - 1 - L.length = -1 := by omega
      rw [hz]
      gi_wp2
      go_end0
      exact ⟨⟨_, rfl⟩, .inl ⟨_, rfl, hJs⟩⟩

end Go.Proofs.YtjdcjdclipbjhaaGreatDoor
