/-
  Texts of this seat put together: V28a, V28.
-/
import Derived.Test.YtihigdcfibjbpaaGreatDoorQ28

/-
  The runs that the law WidthTabs makes; the walk of the document's Blank. Conditions: stops from 1 to 100; no backspace; lengths.
-/
namespace Go.Proofs.YtihigdcfibjbpaaGreatDoor
open Go.RowKit Go.Shelf Go.Maps

/-- The same, its status a letter. -/
theorem RunQ.st {args : List Bts} {inp : Bts} {r : Bts × Bool} {buf line run : Nat} (h : RunQ args inp r buf line run) (W : World) (pa : Option Addr) (ca : Nat) (pi : Option Addr) (ci : Nat) (hg : Glo W) (ha : Ss W pa args) (hi : Bs W pi inp) :
    Calls Tryz.prog 14 #[.slice pi inp.length ci, .agg #[.int .i64 buf, .int .i64 line, .int .i64 run], .slice pa args.length ca] W fun e w' => ∃ sv ov ev steps peak err, e = .returned (.tuple #[.agg #[ov, ev, .int .i64 sv, .slice none 0 0, .int .i64 steps, .int .i64 peak, .int .i64 0], .bool true]) ∧ sv = (if r.2 then 0 else 1) ∧ Sl w' (fun g => W.heap.size ≤ g) ov r.1 ∧ Sl w' (fun g => W.heap.size ≤ g) ev err ∧ Below W.heap.size W w' :=
  (h W pa ca pi ci hg ha hi).mono fun _ _ ⟨ov, ev, steps, peak, err, he, so, se, hb⟩ => ⟨_, ov, ev, steps, peak, err, he, rfl, so, se, hb⟩

theorem parts_digits (D : Bts) (h : ∀ c ∈ D, Ord.digit c = true) : Wi.partsBy Wi.sepB D = [D] :=
  Wi.partsBy_miss _ D fun x hx => by
    have := Ord.digit_nat (h x hx)
    unfold Wi.sepB
    simp only [Bool.or_eq_false_iff, beq_eq_false_iff_ne]
    refine ⟨⟨?_, ?_⟩, ?_⟩ <;> rintro rfl <;> revert this <;> decide
theorem itoa_facts (n : Nat) (h : n < 100000000000000000000) : (∀ c ∈ Lib.itoa (n : Int), Ord.digit c = true) ∧ Lib.itoa (n : Int) ≠ [] := by
  rw [itoa_digits n h]
  exact ⟨fun c hc => List.all_eq_true.1 (Wi.digitsF_digit 20 n) c hc, Wi.digits_ne n⟩

/-- A distance of stops, told and read again. -/
structure StopTold (s : Nat) (D : Bts) : Prop where
  one : 1 ≤ s ∧ s ≤ 100
  len : D.length ≤ 21
  ne : D ≠ []
  asked : AskedC [(116, D)] s
theorem stopTold (s : Nat) (h1 : 1 ≤ s) (h2 : s ≤ 100) : StopTold s (Lib.itoa (s : Int)) := by
  have hil := Lib.itoa_length_le (s : Int) (by omega) (by omega)
  obtain ⟨hd, hne⟩ := itoa_facts s (by omega)
  exact ⟨⟨h1, h2⟩, hil, hne, asked_any [(116, Lib.itoa (s : Int))] (Lib.itoa (s : Int)) s (by simp) rfl (by omega) (parts_digits _ hd) (number_itoa s 2147483647 (by omega) (by omega)) h1⟩

theorem tabRunE (s : Nat) (D : Bts) (h : StopTold s D) (inp : Bts) (hin : inp.length ≤ 4194304) (hok : ∀ c ∈ inp, c ≠ 8) (buf line run : Nat) (g1 : 1 ≤ buf) (g2 : 1 ≤ line) (g3 : line ≤ run) (g4 : run ≤ 1099511627776) (g5 : buf ≤ 1099511627776) :
    RunQ [[101, 120, 112, 97, 110, 100], [45, 116], D] inp (Wi.runs (Wi.still (Wi.expand s)) line () inp) buf line run := by
  have hlen := Wi.expand_len s line h.one.1 inp
  have hl2 : (s + 1) * inp.length ≤ 101 * 4194304 := Nat.mul_le_mul (by have := h.one; omega) hin
  have := h.len
  exact runQ_expand [[45, 116], D] (by simp) (by simp) (by simp [totL]; omega) [(116, D)] rfl (by simp) s h.asked h.one.1 (by have := h.one; omega) inp (by omega) hok buf line run g1 g2 g3 g4 g5 (by omega)
theorem tabRunU (s : Nat) (D : Bts) (h : StopTold s D) (inp : Bts) (hin : inp.length ≤ 1048576) (hok : ∀ c ∈ inp, c ≠ 8) (buf line run : Nat) (g1 : 1 ≤ buf) (g2 : 1 ≤ line) (g3 : line ≤ run) (g4 : run ≤ 1099511627776) (g5 : buf ≤ 1099511627776) :
    RunQ [[117, 110, 101, 120, 112, 97, 110, 100], [45, 116], D] inp (Wi.runs (Wi.still (Wi.unexpand s)) line () inp) buf line run := by
  have hlen := Wi.unexpand_len s line h.one.1 inp
  have := h.len
  exact runQ_unexpand [[45, 116], D] (by simp) (by simp) (by simp [totL]; omega) [(116, D)] rfl (by simp) s h.asked h.one.1 (by have := h.one; omega) inp (by omega) hok buf line run g1 g2 g3 g4 g5 (by omega)
theorem tabRunC (s : Nat) (D : Bts) (h : StopTold s D) (inp : Bts) (hin : inp.length ≤ 4194304) (hok : ∀ c ∈ inp, c ≠ 8) (buf line run : Nat) (g1 : 1 ≤ buf) (g2 : 1 ≤ line) (g3 : line ≤ run) (g4 : run ≤ 1099511627776) (g5 : buf ≤ 1099511627776) :
    RunQ [[101, 120, 112, 97, 110, 100], [45, 116] ++ D] inp (Wi.runs (Wi.still (Wi.expand s)) line () inp) buf line run := by
  have hlen := Wi.expand_len s line h.one.1 inp
  have hl2 : (s + 1) * inp.length ≤ 101 * 4194304 := Nat.mul_le_mul (by have := h.one; omega) hin
  have := h.len
  have hp : Op.parse [116, 58] [[45, 116] ++ D] = some ([(116, D)], []) := by
    have hne := h.ne
    cases D with
    | nil => exact absurd rfl hne
    | cons c r => rfl
  exact runQ_expand [[45, 116] ++ D] (by simp) (by simp) (by simp [totL]; omega) [(116, D)] hp (by simp) s h.asked h.one.1 (by have := h.one; omega) inp (by omega) hok buf line run g1 g2 g3 g4 g5 (by omega)

set_option maxRecDepth 100000 in
theorem rblank_any (c : UInt8) (w : World) : Calls Tryz.prog 15 #[.int .u8 c.toNat] w fun e w' => e = .returned (.bool (Wi.blank c)) ∧ w' = w := by
  have e0 : Wi.blank c = (((c.toNat : Int) == 32) || ((c.toNat : Int) == 9)) := by
    unfold Wi.blank
    rw [u8_beq c 32, u8_beq c 9]; rfl
  rw [e0]
  clear e0
  cases e1 : ((c.toNat : Int) == 32) with
  | true =>
    go_enter Tryz.func15, Tryz.ntmps15
    go_wp2_with fail
    go_ret
    exact ⟨rfl, rfl⟩
  | false =>
    cases e2 : ((c.toNat : Int) == 9) with
    | true =>
      go_enter Tryz.func15, Tryz.ntmps15
      go_wp2_with fail
      go_ret
      exact ⟨rfl, rfl⟩
    | false =>
      go_enter Tryz.func15, Tryz.ntmps15
      go_wp2_with fail
      go_ret
      exact ⟨rfl, rfl⟩

theorem tabsOk_step (c : UInt8) (r inp : Bts) (h : Wi.tabsOk (c :: r) inp = true) : c ≠ 9 ∧ ((c = 32 ∧ Wi.tabsOk r (inp.dropWhile Wi.blank) = true) ∨ (c ≠ 32 ∧ ∃ t, inp.dropWhile Wi.blank = c :: t ∧ Wi.tabsOk r t = true)) := by
  rw [Wi.tabsOk] at h
  by_cases h9 : c = 9
  · rw [if_pos h9] at h; cases h
  rw [if_neg h9] at h
  refine ⟨h9, ?_⟩
  by_cases h32 : c = 32
  · rw [if_pos h32] at h; exact .inl ⟨h32, h⟩
  · rw [if_neg h32] at h
    refine .inr ⟨h32, ?_⟩
    cases hd : inp.dropWhile Wi.blank with
    | nil => rw [hd] at h; cases h
    | cons d t =>
      rw [hd] at h
      simp only at h
      by_cases e : d = c
      · rw [if_pos e] at h; exact ⟨t, by rw [e], h⟩
      · rw [if_neg e] at h; cases h
/-- Blanks, passed one by one. -/
theorem dw_blank {l : Bts} {k : Nat} (hk : k < l.length) (h : Wi.blank (l.getD k 0) = true) : (l.drop (k + 1)).dropWhile Wi.blank = (l.drop k).dropWhile Wi.blank := by
  have e : l.getD k 0 = l[k] := by rw [List.getD_eq_getElem?_getD, List.getElem?_eq_getElem hk]; rfl
  rw [List.drop_eq_getElem_cons hk, List.dropWhile_cons, if_pos (by rw [← e]; exact h)]
theorem dw_stop {l : Bts} {k : Nat} (hk : k < l.length) (h : Wi.blank (l.getD k 0) = false) : (l.drop k).dropWhile Wi.blank = l.getD k 0 :: l.drop (k + 1) := by
  have e : l.getD k 0 = l[k] := by rw [List.getD_eq_getElem?_getD, List.getElem?_eq_getElem hk]; rfl
  rw [List.drop_eq_getElem_cons hk, List.dropWhile_cons, if_neg (by rw [← e, h]; decide), e]

end Go.Proofs.YtihigdcfibjbpaaGreatDoor

/-
  The walk of the law WidthTabs. Conditions: lengths; what the library's variables hold.
-/
namespace Go.Proofs.YtihigdcfibjbpaaGreatDoor
open Go.RowKit Go.Shelf Go.Maps

set_option maxRecDepth 100000 in
set_option maxHeartbeats 8000000 in
theorem tabs_any (inp : Bts) (hin : inp.length ≤ 1048576) (pi : Option Addr) (ci : Nat) (n : Int) (hn1 : -9223372036854775808 ≤ n) (hn2 : n ≤ 9223372036854775807) (buf line run : Int) (w : World) (hg : Glo w) (hi : Bs w pi inp) :
    Calls Tryz.prog 5 #[.slice pi inp.length ci, .int .i64 n, .agg #[.int .i64 buf, .int .i64 line, .int .i64 run]] w fun e w' => e = .returned (.bool true) ∧ Below w.heap.size w w' := by
  obtain ⟨w0, hw0⟩ : ∃ w0, w.alloc (.cells #[.int .i64 buf, .int .i64 line, .int .i64 run] 31) = w0 := ⟨_, rfl⟩
  have hb0 : Below w.heap.size w w0 := by rw [← hw0]; exact (Below.refl _ _).alloc (Nat.le_refl _) _
  have hk0 : Blk w0 w.heap.size #[.int .i64 buf, .int .i64 line, .int .i64 run] 31 := by rw [← hw0]; exact Blk.new _ _ _
  have haw := awake_any w0 (hg.below hb0)
  have HG := Lib.hid hg
  have HI := Lib.hid (hi.below hb0 (Nat.le_refl _))
  have HW0 := Lib.hid hw0
  have HB0 := Lib.hid hb0
  have HLIM := Lib.hid hk0
  have HN := Lib.hid (And.intro hn1 hn2)
  clear hg hi hw0 hb0 hk0
  go_enter Tryz.func5, Tryz.ntmps5
  go_wp2_with fail
  rw [HW0.out]
  refine haw.mono ?_
  rintro e w1 ⟨rfl, hb1⟩
  have HB1 := Lib.hid hb1
  clear haw hb1
  go_wp2_with fail
  go_loopw [8] (fun x8 wr => ∃ k : Nat, k ≤ inp.length ∧ x8 = .int .i64 k ∧ Hid (∀ j, j < k → inp.getD j 0 ≠ 8) ∧ wr = w1) (fun x8 _ => inp.length - (intOf x8).toNat)
  case atStart => exact ⟨0, Nat.zero_le _, rfl, Lib.hid (fun j h => by omega), rfl⟩
  case round =>
    obtain ⟨k, hk, rfl, HNO, rfl⟩ := hrel
    by_cases hlt : k < inp.length
    · obtain ⟨c, hc⟩ : ∃ c, inp.getD k 0 = c := ⟨_, rfl⟩
      obtain ⟨bi, oi, rfl, hci2⟩ := HI.out (by omega)
      have hik := hci2 k hlt
      rw [hc] at hik
      have hir := (HB1.out.cell (p := ⟨bi, oi + k, none⟩) (World.block_lt_of_cell? _ _ hik)).trans hik
      have g1 : decide ((k : Int) < inp.length) = true := by simp; omega
      have g2 : decide (k < inp.length) = true := by simp; omega
      have g3 : (0 : Int) ≤ k := by omega
      have g4 : (k : Int) < inp.length := by omega
      have HC := Lib.hid hc
      clear hci2 hik hc
      by_cases h8 : c = 8
      · subst h8
        have hir2 : wr.cell? ⟨bi, oi + k, none⟩ = some (.int .u8 8) := hir
        clear hir
        go_wp2_with fail
        go_ret
        exact ⟨rfl, HB0.out.trans (HB1.out.mono HB0.out.size)⟩
      · have f0 : ((c.toNat : Int) == 8) = false := by simpa using u8_lit (n := 8) h8 (by decide)
        have H8 := Lib.hid h8
        clear h8
        go_wp2_with fail
        go_roundw
        case rel => exact ⟨k + 1, by omega, by go_num, Lib.hid (fun j hj => by
          rcases Nat.lt_or_ge j k with h | h
          · exact HNO.out j h
          · have : j = k := by omega
            rw [this, HC.out]; exact H8.out), by first | rfl | trivial⟩
        case measure => simp [intOf]; omega
    · obtain rfl : k = inp.length := by omega
      obtain ⟨w1, hw1⟩ : ∃ w1, w1 = wr := ⟨_, rfl⟩
      subst hw1
      have hno : ∀ c ∈ inp, c ≠ 8 := fun c hc => by
        obtain ⟨j, hj⟩ := List.mem_iff_getElem?.1 hc
        have := HNO.out j (List.getElem?_eq_some_iff.1 hj).1
        rw [List.getD_eq_getElem?_getD, hj] at this
        exact this
      have HNO8 := Lib.hid hno
      have hbw1 := HB0.out.trans (HB1.out.mono HB0.out.size)
      have hdg := digits_any n HN.out.1 HN.out.2 w1 (HG.out.below hbw1)
      obtain ⟨D, hD⟩ : ∃ D, Lib.itoa n = D := ⟨_, rfl⟩
      rw [hD] at hdg
      have HD := Lib.hid hD
      have g1 : decide ((inp.length : Int) < inp.length) = false := by simp
      clear hD hno hbw1 HNO
      go_wp2_with fail
      refine hdg.mono ?_
      rintro e w2 ⟨rfl, hb2⟩
      have HB02 := Lib.hid (HB1.out.trans (hb2.mono HB1.out.size))
      clear hdg hb2
      obtain ⟨wA, hwA⟩ : ∃ wA, w2.alloc (.cells #[.string ⟨#[120]⟩] 9) = wA := ⟨_, rfl⟩
      have hbA : Below w0.heap.size w0 wA := by rw [← hwA]; exact HB02.out.alloc HB02.out.size _
      have l0 := (HLIM.out.keep hbA HLIM.out.lt).cell 0 (v := .int .i64 buf) rfl
      have l1 := (HLIM.out.keep hbA HLIM.out.lt).cell 1 (v := .int .i64 line) rfl
      have l2 := (HLIM.out.keep hbA HLIM.out.lt).cell 2 (v := .int .i64 run) rfl
      rw [← hwA] at l0 l1 l2
      have hmay := rmay_any (some ⟨w2.heap.size, 0, none⟩) 1 1 (by decide) buf line run wA
      have HWA := Lib.hid hwA
      have HBA := Lib.hid hbA
      unfold jobV at hmay
      clear hwA hbA
      go_wp2_with fail
      rw [HWA.out]
      clear l0 l1 l2
      refine hmay.mono ?_
      rintro e w5 ⟨rfl, hb5⟩
      have HB05 := Lib.hid (HBA.out.trans (hb5.mono HBA.out.size))
      clear hmay hb5
      cases hm : mayB buf line run with
      | false =>
        have HFIN := Lib.hid (HB0.out.trans (HB05.out.mono HB0.out.size))
        clear hm
        go_wp2_with fail
        go_ret
        exact ⟨rfl, HFIN.out⟩
      | true =>
        have HM := Lib.hid (mayB_false hm)
        clear hm
        by_cases hlow : n < 1
        · have e1 : decide (n < 1) = true := by simpa using hlow
          have HFIN := Lib.hid (HB0.out.trans (HB05.out.mono HB0.out.size))
          clear hlow
          go_wp2_with fail
          go_ret
          exact ⟨rfl, HFIN.out⟩
        · have e1 : decide (n < 1) = false := by simpa using hlow
          by_cases hhi : 100 < n
          · have e2 : decide (100 < n) = true := by simpa using hhi
            have HFIN := Lib.hid (HB0.out.trans (HB05.out.mono HB0.out.size))
            clear hlow hhi
            go_wp2_with fail
            go_ret
            exact ⟨rfl, HFIN.out⟩
          · have e2 : decide (100 < n) = false := by simpa using hhi
            obtain ⟨N, rfl⟩ : ∃ N : Nat, n = N := ⟨n.toNat, by omega⟩
            have hm := HM.out
            obtain ⟨bN, rfl⟩ : ∃ b : Nat, buf = b := ⟨buf.toNat, by omega⟩
            obtain ⟨lN, rfl⟩ : ∃ b : Nat, line = b := ⟨line.toNat, by omega⟩
            obtain ⟨rN, rfl⟩ : ∃ b : Nat, run = b := ⟨run.toNat, by omega⟩
            have hN1 : 1 ≤ N := by omega
            have hST := stopTold N hN1 (by omega)
            rw [HD.out] at hST
            have hrE := tabRunE N D hST inp (by omega) HNO8.out bN lN rN (by omega) (by omega) (by omega) (by omega) (by omega)
            have hrU := tabRunU N D hST inp hin HNO8.out bN lN rN (by omega) (by omega) (by omega) (by omega) (by omega)
            have hlenU := Wi.unexpand_len N lN hN1 inp
            have hrC := tabRunC N D hST (Wi.runs (Wi.still (Wi.unexpand N)) lN () inp).1 (by omega) (Wi.unexpand_no N lN inp HNO8.out) bN lN rN (by omega) (by omega) (by omega) (by omega) (by omega)
            have hlaw := Wi.tabs_law N lN inp.length inp (Nat.le_refl _)
            have hback := Wi.back_law N lN hN1 inp.length inp (Nat.le_refl _)
            have hlenE := Wi.expand_len N lN hN1 inp
            have hlE2 : (N + 1) * inp.length ≤ 101 * 1048576 := Nat.mul_le_mul (by omega) hin
            change (Wi.runs (Wi.still (Wi.expand N)) lN () inp).2 = true → Wi.tabsOk (Wi.runs (Wi.still (Wi.expand N)) lN () inp).1 inp = true at hlaw
            change (Wi.runs (Wi.still (Wi.unexpand N)) lN () inp).2 = (Wi.runs (Wi.still (Wi.expand N)) lN () inp).2 ∧ ((Wi.runs (Wi.still (Wi.expand N)) lN () inp).2 = true → (Wi.runs (Wi.still (Wi.unexpand N)) lN () inp).1.length ≤ (Wi.runs (Wi.still (Wi.expand N)) lN () inp).1.length ∧ Wi.runs (Wi.still (Wi.expand N)) lN () (Wi.runs (Wi.still (Wi.unexpand N)) lN () inp).1 = ((Wi.runs (Wi.still (Wi.expand N)) lN () inp).1, true)) at hback
            generalize hRE : Wi.runs (Wi.still (Wi.expand N)) lN () inp = RE at *
            generalize hRU : Wi.runs (Wi.still (Wi.unexpand N)) lN () inp = RU at *
            generalize hRC : Wi.runs (Wi.still (Wi.expand N)) lN () RU.1 = RC at *
            obtain ⟨OUT, OK⟩ := RE
            obtain ⟨UO, UK⟩ := RU
            obtain ⟨CO, CK⟩ := RC
            simp only at hrE hrU hrC hlaw hback hlenU hlenE
            have hol : OUT.length ≤ 106000000 := by omega
            have hul : UO.length ≤ 2097152 := by omega
            obtain ⟨rfl, hback2⟩ := hback
            have HDL := Lib.hid hST.len
            have HLAW := Lib.hid hlaw
            have HBACK := Lib.hid hback2
            have HRE := Lib.hid hrE
            have HRU := Lib.hid hrU
            have HRC := Lib.hid hrC
            clear hlaw hback2 hrE hrU hrC hRE hRU hRC hlenU hlenE hlE2 hST hm hlow hhi
            have m00 := (HLIM.out.keep HB05.out HLIM.out.lt).cell 0 (v := .int .i64 bN) rfl
            have m01 := (HLIM.out.keep HB05.out HLIM.out.lt).cell 1 (v := .int .i64 lN) rfl
            have m02 := (HLIM.out.keep HB05.out HLIM.out.lt).cell 2 (v := .int .i64 rN) rfl
            obtain ⟨x0, hx0⟩ : ∃ x, w5.alloc (.cells #[.string ⟨#[101, 120, 112, 97, 110, 100]⟩, .string ⟨#[45, 116]⟩, .string ⟨D.toArray⟩] 9) = x := ⟨_, rfl⟩
            have hbx0 : Below w0.heap.size w0 x0 := by rw [← hx0]; exact HB05.out.alloc HB05.out.size _
            have hbz0 : Below w5.heap.size w5 x0 := by rw [← hx0]; exact (Below.refl _ _).alloc (Nat.le_refl _) _
            have hss0 : Ss x0 (some ⟨w5.heap.size, 0, none⟩) [[101, 120, 112, 97, 110, 100], [45, 116], D] := ss_lit (t := 9) (by rw [← hx0]; exact Blk.new _ _ _)
            have hrun0 := HRE.out.st x0 (some ⟨w5.heap.size, 0, none⟩) 3 pi ci (HG.out.below (HB0.out.trans (hbx0.mono HB0.out.size))) hss0 (HI.out.below hbx0 (Nat.le_refl _))
            have HX0 := Lib.hid hx0
            have HBX0 := Lib.hid hbx0
            have HBZ0 := Lib.hid hbz0
            have HRUN0 := Lib.hid hrun0
            clear hx0 hbx0 hss0 hrun0 hbz0
            go_wp2_with fail
            rw [HX0.out]
            refine HRUN0.out.mono ?_
            rintro e v0 ⟨sv0, ov0, ev0, st0, pk0, er0, rfl, hsv0, so0, se0, hb0⟩
            obtain ⟨po0, co0, rfl, hob0, hoc0⟩ := id so0.bs
            obtain ⟨pe0, ce0, rfl, -, -⟩ := id se0.bs
            have HSV0 : Hid (sv0 = (if UK then 0 else 1)) := Lib.hid hsv0
            clear hsv0
            clear HRUN0 m00 m01 m02
            try simp only at hob0 hoc0
            obtain ⟨w6, hw0⟩ : ∃ w', v0.alloc (.cells #[.slice po0 OUT.length co0, .slice pe0 er0.length ce0, .int .i64 sv0, .slice none 0 0, .int .i64 st0, .int .i64 pk0, .int .i64 0] 40) = w' := ⟨_, rfl⟩
            have hbv0 := HBX0.out.trans (hb0.mono HBX0.out.size)
            have hbw0 : Below w0.heap.size w0 w6 := by rw [← hw0]; exact hbv0.alloc hbv0.size _
            have hbs0 : Below w5.heap.size w5 w6 := by
              rw [← hw0]
              have h1 := HBZ0.out.trans (hb0.mono HBZ0.out.size)
              exact h1.alloc h1.size _
            have HRES0 : Hid (Blk w6 v0.heap.size #[.slice po0 OUT.length co0, .slice pe0 er0.length ce0, .int .i64 sv0, .slice none 0 0, .int .i64 st0, .int .i64 pk0, .int .i64 0] 40) := Lib.hid (by rw [← hw0]; exact Blk.new _ _ _)
            have HOB0 : Hid (Bs w6 po0 OUT) := Lib.hid (hob0.below (B := v0.heap.size) (by rw [← hw0]; exact (Below.refl _ _).alloc (Nat.le_refl _) _) (Nat.le_refl _))
            have HBW0 := Lib.hid hbw0
            have HBS0 := Lib.hid hbs0
            have HWN0 := Lib.hid hw0
            clear hw0 hob0 hbv0 hbw0 hbs0 so0 se0 hb0
            go_upto_region 12 with fail
            rw [HWN0.out]
            have m10 := (HLIM.out.keep HBW0.out HLIM.out.lt).cell 0 (v := .int .i64 bN) rfl
            have m11 := (HLIM.out.keep HBW0.out HLIM.out.lt).cell 1 (v := .int .i64 lN) rfl
            have m12 := (HLIM.out.keep HBW0.out HLIM.out.lt).cell 2 (v := .int .i64 rN) rfl
            obtain ⟨x1, hx1⟩ : ∃ x, w6.alloc (.cells #[.string ⟨#[117, 110, 101, 120, 112, 97, 110, 100]⟩, .string ⟨#[45, 116]⟩, .string ⟨D.toArray⟩] 9) = x := ⟨_, rfl⟩
            have hbx1 : Below w0.heap.size w0 x1 := by rw [← hx1]; exact HBW0.out.alloc HBW0.out.size _
            have hbz1 : Below w6.heap.size w6 x1 := by rw [← hx1]; exact (Below.refl _ _).alloc (Nat.le_refl _) _
            have hss1 : Ss x1 (some ⟨w6.heap.size, 0, none⟩) [[117, 110, 101, 120, 112, 97, 110, 100], [45, 116], D] := ss_lit (t := 9) (by rw [← hx1]; exact Blk.new _ _ _)
            have hrun1 := HRU.out.st x1 (some ⟨w6.heap.size, 0, none⟩) 3 pi ci (HG.out.below (HB0.out.trans (hbx1.mono HB0.out.size))) hss1 (HI.out.below hbx1 (Nat.le_refl _))
            have HX1 := Lib.hid hx1
            have HBX1 := Lib.hid hbx1
            have HBZ1 := Lib.hid hbz1
            have HRUN1 := Lib.hid hrun1
            clear hx1 hbx1 hss1 hrun1 hbz1
            go_wp2_with fail
            rw [HX1.out]
            refine HRUN1.out.mono ?_
            rintro e v1 ⟨sv1, ov1, ev1, st1, pk1, er1, rfl, hsv1, so1, se1, hb1⟩
            obtain ⟨po1, co1, rfl, hob1, hoc1⟩ := id so1.bs
            obtain ⟨pe1, ce1, rfl, -, -⟩ := id se1.bs
            have HSV1 : Hid (sv1 = (if UK then 0 else 1)) := Lib.hid hsv1
            clear hsv1
            clear HRUN1 m10 m11 m12
            try simp only at hob1 hoc1
            obtain ⟨w7, hw1⟩ : ∃ w', v1.alloc (.cells #[.slice po1 UO.length co1, .slice pe1 er1.length ce1, .int .i64 sv1, .slice none 0 0, .int .i64 st1, .int .i64 pk1, .int .i64 0] 40) = w' := ⟨_, rfl⟩
            have hbv1 := HBX1.out.trans (hb1.mono HBX1.out.size)
            have hbw1 : Below w0.heap.size w0 w7 := by rw [← hw1]; exact hbv1.alloc hbv1.size _
            have hbs1 : Below w6.heap.size w6 w7 := by
              rw [← hw1]
              have h1 := HBZ1.out.trans (hb1.mono HBZ1.out.size)
              exact h1.alloc h1.size _
            have HRES1 : Hid (Blk w7 v1.heap.size #[.slice po1 UO.length co1, .slice pe1 er1.length ce1, .int .i64 sv1, .slice none 0 0, .int .i64 st1, .int .i64 pk1, .int .i64 0] 40) := Lib.hid (by rw [← hw1]; exact Blk.new _ _ _)
            have HOB1 : Hid (Bs w7 po1 UO) := Lib.hid (hob1.below (B := v1.heap.size) (by rw [← hw1]; exact (Below.refl _ _).alloc (Nat.le_refl _) _) (Nat.le_refl _))
            have HBW1 := Lib.hid hbw1
            have HBS1 := Lib.hid hbs1
            have HWN1 := Lib.hid hw1
            clear hw1 hob1 hbv1 hbw1 hbs1 so1 se1 hb1
            go_upto_region 13 with fail
            rw [HWN1.out]
            have m20 := (HLIM.out.keep HBW1.out HLIM.out.lt).cell 0 (v := .int .i64 bN) rfl
            have m21 := (HLIM.out.keep HBW1.out HLIM.out.lt).cell 1 (v := .int .i64 lN) rfl
            have m22 := (HLIM.out.keep HBW1.out HLIM.out.lt).cell 2 (v := .int .i64 rN) rfl
            have u0 := HRES1.out.cell 0 (v := .slice po1 UO.length co1) rfl
            have hDl := HDL.out
            obtain ⟨x2, hx2⟩ : ∃ x, w7.alloc (.cells #[.string ⟨#[101, 120, 112, 97, 110, 100]⟩, .string ⟨([45, 116] ++ D).toArray⟩] 9) = x := ⟨_, rfl⟩
            have hbx2 : Below w0.heap.size w0 x2 := by rw [← hx2]; exact HBW1.out.alloc HBW1.out.size _
            have hbz2 : Below w7.heap.size w7 x2 := by rw [← hx2]; exact (Below.refl _ _).alloc (Nat.le_refl _) _
            have hss2 : Ss x2 (some ⟨w7.heap.size, 0, none⟩) [[101, 120, 112, 97, 110, 100], [45, 116] ++ D] := ss_lit (t := 9) (by rw [← hx2]; exact Blk.new _ _ _)
            have hrun2 := HRC.out.st x2 (some ⟨w7.heap.size, 0, none⟩) 2 po1 co1 (HG.out.below (HB0.out.trans (hbx2.mono HB0.out.size))) hss2 (HOB1.out.below hbz2 (Nat.le_refl _))
            have HX2 := Lib.hid hx2
            have HBX2 := Lib.hid hbx2
            have HBZ2 := Lib.hid hbz2
            have HRUN2 := Lib.hid hrun2
            clear hx2 hbx2 hss2 hrun2 hbz2
            go_wp2_with fail
            rw [show ((⟨#[45, 116]⟩ : ByteArray) ++ ⟨D.toArray⟩) = ⟨([45, 116] ++ D).toArray⟩ from str_app [45, 116] D]
            clear u0
            rw [HX2.out]
            refine HRUN2.out.mono ?_
            rintro e v2 ⟨sv2, ov2, ev2, st2, pk2, er2, rfl, hsv2, so2, se2, hb2⟩
            obtain ⟨po2, co2, rfl, hob2, hoc2⟩ := id so2.bs
            obtain ⟨pe2, ce2, rfl, -, -⟩ := id se2.bs
            have HSV2 : Hid (sv2 = (if CK then 0 else 1)) := Lib.hid hsv2
            clear hsv2
            clear HRUN2 m20 m21 m22
            try simp only at hob2 hoc2
            obtain ⟨w8, hw2⟩ : ∃ w', v2.alloc (.cells #[.slice po2 CO.length co2, .slice pe2 er2.length ce2, .int .i64 sv2, .slice none 0 0, .int .i64 st2, .int .i64 pk2, .int .i64 0] 40) = w' := ⟨_, rfl⟩
            have hbv2 := HBX2.out.trans (hb2.mono HBX2.out.size)
            have hbw2 : Below w0.heap.size w0 w8 := by rw [← hw2]; exact hbv2.alloc hbv2.size _
            have hbs2 : Below w7.heap.size w7 w8 := by
              rw [← hw2]
              have h1 := HBZ2.out.trans (hb2.mono HBZ2.out.size)
              exact h1.alloc h1.size _
            have HRES2 : Hid (Blk w8 v2.heap.size #[.slice po2 CO.length co2, .slice pe2 er2.length ce2, .int .i64 sv2, .slice none 0 0, .int .i64 st2, .int .i64 pk2, .int .i64 0] 40) := Lib.hid (by rw [← hw2]; exact Blk.new _ _ _)
            have HOB2 : Hid (Bs w8 po2 CO) := Lib.hid (hob2.below (B := v2.heap.size) (by rw [← hw2]; exact (Below.refl _ _).alloc (Nat.le_refl _) _) (Nat.le_refl _))
            have HBW2 := Lib.hid hbw2
            have HBS2 := Lib.hid hbs2
            have HWN2 := Lib.hid hw2
            clear hw2 hob2 hbv2 hbw2 hbs2 so2 se2 hb2
            go_upto_region 14 with fail
            rw [HWN2.out]
            have hb68 := HBS1.out.trans (HBS2.out.mono HBS1.out.size)
            have a0 := (HRES0.out.keep hb68 HRES0.out.lt).cell 0 (v := .slice po0 OUT.length co0) rfl
            have a2 := (HRES0.out.keep hb68 HRES0.out.lt).cell 2 (v := .int .i64 sv0) rfl
            have b0 := (HRES1.out.keep HBS2.out HRES1.out.lt).cell 0 (v := .slice po1 UO.length co1) rfl
            have b2 := (HRES1.out.keep HBS2.out HRES1.out.lt).cell 2 (v := .int .i64 sv1) rfl
            have HRA := Lib.hid (HRES0.out.keep hb68 HRES0.out.lt)
            have HRB := Lib.hid (HRES1.out.keep HBS2.out HRES1.out.lt)
            have HOA := Lib.hid (HOB0.out.below hb68 (Nat.le_refl _))
            have HIN := Lib.hid (HI.out.below HBW2.out (Nat.le_refl _))
            have HFIN := Lib.hid (HB0.out.trans (HBW2.out.mono HB0.out.size))
            clear hb68
            cases UK with
            | false =>
              have h0 : sv0 = 1 := HSV0.out
              have h1 : sv1 = 1 := HSV1.out
              subst h0 h1
              go_wp2_with fail
              go_ret
              exact ⟨rfl, HFIN.out⟩
            | true =>
              have h0 : sv0 = 0 := HSV0.out
              have h1 : sv1 = 0 := HSV1.out
              subst h0 h1
              obtain ⟨hle, hrc⟩ := HBACK.out rfl
              simp only [Prod.mk.injEq] at hrc
              obtain ⟨rfl, rfl⟩ := hrc
              have HTB := Lib.hid (HLAW.out rfl)
              have HLEN := Lib.hid hle
              clear b0 hle
              go_wp2_with fail
              clear a0 a2 b2
              go_loopw [17, 18, 19] (fun x17 x18 _x19 wr => ∃ i k : Nat, x18 = .int .i64 i ∧ x17 = .int .i64 k ∧ i ≤ CO.length ∧ k ≤ inp.length ∧ Hid (Wi.tabsOk (CO.drop i) (inp.drop k) = true) ∧ Hid (Below w8.heap.size w8 wr)) (fun _ x18 _ _ => CO.length - (intOf x18).toNat)
              case atStart => exact ⟨0, 0, rfl, rfl, Nat.zero_le _, Nat.zero_le _, Lib.hid (by rw [List.drop_zero, List.drop_zero]; exact HTB.out), Lib.hid (Below.refl _ _)⟩
              case round =>
                obtain ⟨i, k, rfl, rfl, hi, hk, HF, HBL⟩ := hrel
                have q0 := (HRA.out.keep HBL.out HRA.out.lt).cell 0 (v := .slice po0 CO.length co0) rfl
                by_cases hlt : i < CO.length
                · obtain ⟨c, hc⟩ : ∃ c, CO[i] = c := ⟨_, rfl⟩
                  have hf := HF.out
                  rw [List.drop_eq_getElem_cons hlt, hc] at hf
                  obtain ⟨h9, hstep⟩ := tabsOk_step c _ _ hf
                  have hgd : CO.getD i 0 = c := by rw [List.getD_eq_getElem?_getD, List.getElem?_eq_getElem hlt, hc]; rfl
                  obtain ⟨bo, oo, rfl, hco⟩ := HOA.out (by omega)
                  have hcc := hco i hlt
                  rw [hgd] at hcc
                  have hcr := (HBL.out.cell (p := ⟨bo, oo + i, none⟩) (World.block_lt_of_cell? _ _ hcc)).trans hcc
                  have g1 : decide ((i : Int) < CO.length) = true := by simp; omega
                  have g2 : decide (i < CO.length) = true := by simp; omega
                  have g3 : (0 : Int) ≤ i := by omega
                  have g4 : (i : Int) < CO.length := by omega
                  have f9 : ((c.toNat : Int) == 9) = false := by simpa using u8_lit (n := 9) h9 (by decide)
                  have hbl := rblank_any c wr
                  have HSTEP := Lib.hid hstep
                  have HQ0 := Lib.hid q0
                  have HCR := Lib.hid hcr
                  obtain ⟨wo, hwo⟩ : ∃ wo, wo = wr := ⟨_, rfl⟩
                  subst hwo
                  clear hf hstep hco hcc hgd hc h9
                  go_wp2_with fail
                  refine hbl.mono ?_
                  rintro e wx ⟨rfl, rfl⟩
                  clear hbl q0 hcr
                  go_wp2_with fail
                  go_loopw [17] (fun x17 wr => ∃ k2 : Nat, x17 = .int .i64 k2 ∧ k2 ≤ inp.length ∧ Hid ((inp.drop k2).dropWhile Wi.blank = (inp.drop k).dropWhile Wi.blank) ∧ wr = wx) (fun x17 _ => inp.length - (intOf x17).toNat)
                  case atStart => exact ⟨k, rfl, hk, Lib.hid rfl, rfl⟩
                  case round =>
                    obtain ⟨k2, rfl, hk2, HD2, rfl⟩ := hrel
                    have g5 : (0 : Int) ≤ k2 := by omega
                    by_cases hkl : k2 < inp.length
                    · obtain ⟨d, hd⟩ : ∃ d, inp.getD k2 0 = d := ⟨_, rfl⟩
                      obtain ⟨bi, oi, rfl, hci2⟩ := HIN.out (by omega)
                      have hik := hci2 k2 hkl
                      rw [hd] at hik
                      have hir := (HBL.out.cell (p := ⟨bi, oi + k2, none⟩) (World.block_lt_of_cell? _ _ hik)).trans hik
                      have f2 : decide ((k2 : Int) < inp.length) = true := by simp; omega
                      have f3 : (k2 : Int) < inp.length := by omega
                      have HD := Lib.hid hd
                      clear hci2 hik hd
                      by_cases d32 : d = 32
                      · subst d32
                        have hir2 : wr.cell? ⟨bi, oi + k2, none⟩ = some (.int .u8 32) := hir
                        clear hir
                        go_wp2_with fail
                        go_roundw
                        case rel => exact ⟨k2 + 1, by go_num, by omega, Lib.hid (by rw [← HD2.out]; exact dw_blank hkl (by rw [HD.out]; rfl)), by first | rfl | trivial⟩
                        case measure => simp [intOf]; omega
                      · by_cases d9 : d = 9
                        · subst d9
                          have hir2 : wr.cell? ⟨bi, oi + k2, none⟩ = some (.int .u8 9) := hir
                          clear hir d32
                          go_wp2_with fail
                          go_roundw
                          case rel => exact ⟨k2 + 1, by go_num, by omega, Lib.hid (by rw [← HD2.out]; exact dw_blank hkl (by rw [HD.out]; rfl)), by first | rfl | trivial⟩
                          case measure => simp [intOf]; omega
                        · have y1 : ((d.toNat : Int) == 32) = false := by simpa using u8_lit (n := 32) d32 (by decide)
                          have y2 : ((d.toNat : Int) == 9) = false := by simpa using u8_lit (n := 9) d9 (by decide)
                          have hbf : Wi.blank d = false := by simp [Wi.blank, d32, d9]
                          have hst := dw_stop hkl (by rw [HD.out]; exact hbf)
                          rw [HD2.out, HD.out] at hst
                          rcases HSTEP.out with ⟨hc32, hrest⟩ | ⟨hc32, t, ht, hrest⟩
                          · have hb32 : Wi.blank c = true := by rw [hc32]; rfl
                            have HR : Hid (Wi.tabsOk (CO.drop (i + 1)) (inp.drop k2) = true) := Lib.hid (by
                              have h1 := dw_stop hkl (by rw [HD.out]; exact hbf)
                              have h2 := HD2.out
                              rw [h1] at h2
                              rw [← h2] at hrest
                              have h3 : inp.getD k2 0 :: inp.drop (k2 + 1) = inp.drop k2 := by
                                rw [List.drop_eq_getElem_cons hkl, List.getD_eq_getElem?_getD, List.getElem?_eq_getElem hkl]; rfl
                              rw [h3] at hrest
                              exact hrest)
                            rw [hb32]
                            clear hst hbf d32 d9 hc32 hrest
                            go_wp2_with fail
                            go_roundw
                            case rel => exact ⟨i + 1, k2, by go_num, rfl, by omega, by omega, HR, HBL⟩
                            case measure => simp [intOf]; omega
                          · have hb0 : Wi.blank c = false := by
                              have h9 : c ≠ 9 := fun e => by rw [e] at f9; exact absurd f9 (by decide)
                              simp [Wi.blank, hc32, h9]
                            rw [ht] at hst
                            injection hst with hcd htt
                            subst hcd
                            have HR : Hid (Wi.tabsOk (CO.drop (i + 1)) (inp.drop (k2 + 1)) = true) := Lib.hid (by rw [← htt]; exact hrest)
                            have hcr := HCR.out
                            have q0 := HQ0.out
                            have f4 : decide (k2 = inp.length) = false := by simp; omega
                            have f5 : ((k2 : Int) == inp.length) = false := by simp; omega
                            rw [hb0]
                            clear hbf d32 d9 hc32 hrest ht htt
                            go_upto_region 28 with fail
                            go_region
                            go_wp2_with fail
                            go_roundw
                            case rel => exact ⟨i + 1, k2 + 1, by go_num, by go_num, by omega, by omega, HR, Lib.hid HBL.out.drew⟩
                            case measure => simp [intOf]; omega
                    · obtain rfl : k2 = inp.length := by omega
                      have f2 : decide ((inp.length : Int) < inp.length) = false := by simp
                      have hdn := HD2.out
                      rw [List.drop_of_length_le (Nat.le_refl _)] at hdn
                      rcases HSTEP.out with ⟨hc32, hrest⟩ | ⟨hc32, t, ht, hrest⟩
                      · have hb32 : Wi.blank c = true := by rw [hc32]; rfl
                        have HR : Hid (Wi.tabsOk (CO.drop (i + 1)) (inp.drop inp.length) = true) := Lib.hid (by
                          rw [List.drop_of_length_le (Nat.le_refl _)]
                          rw [← hdn] at hrest
                          exact hrest)
                        rw [hb32]
                        clear hdn hc32 hrest
                        go_wp2_with fail
                        go_roundw
                        case rel => exact ⟨i + 1, inp.length, by go_num, rfl, by omega, by omega, HR, HBL⟩
                        case measure => simp [intOf]; omega
                      · rw [ht] at hdn
                        cases hdn
                · obtain rfl : i = CO.length := by omega
                  have g1 : decide ((CO.length : Int) < CO.length) = false := by simp
                  have hrb := HRB.out.keep HBL.out HRB.out.lt
                  have b0 := hrb.cell 0 (v := .slice po1 UO.length co1) rfl
                  have b2 := hrb.cell 2 (v := .int .i64 0) rfl
                  have c0 := (HRES2.out.keep HBL.out HRES2.out.lt).cell 0 (v := .slice po2 CO.length co2) rfl
                  have hv1 := run_str (HOA.out.below HBL.out (Nat.le_refl _)) co0
                  have hv2 := run_str (HOB2.out.below HBL.out (Nat.le_refl _)) co2
                  have hle : decide ((UO.length : Int) ≤ CO.length) = true := by have := HLEN.out; simp; omega
                  have hle2 : decide (UO.length ≤ CO.length) = true := by have := HLEN.out; simp; omega
                  clear hrb
                  go_wp2_with fail
                  go_ret
                  exact ⟨rfl, HFIN.out.trans (HBL.out.mono HFIN.out.size)⟩

end Go.Proofs.YtihigdcfibjbpaaGreatDoor
