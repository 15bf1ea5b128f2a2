/-
  Texts of this seat put together: Lens, V26, V27.
-/
import Derived.Test.YtihigdcfibjbpaaGreatDoorQ12
import Derived.Test.YtihigdcfibjbpaaGreatDoorQ27

/-
  How much comes out of fold, expand, unexpand and nl at most. No program in sight. Conditions: widths and stops of at least one.
-/
namespace Go.Proofs.YtihigdcfibjbpaaGreatDoor.Wi
open Go

theorem runsF_len {σ : Type} (f : σ → Bytes → σ × Bytes) (most C D : Nat) (hf : ∀ s l, (f s l).2.length ≤ C * l.length + D) : ∀ (k : Nat) (s : σ) (inp : Bytes), (runsF f most k s inp).1.length ≤ (C + D + 1) * inp.length := by
  intro k
  induction k with
  | zero => intro s inp; simp [runsF]
  | succ k ih =>
    intro s inp
    rw [runsF]
    by_cases h0 : inp = []
    · rw [if_pos h0]; simp
    rw [if_neg h0]
    simp only
    split
    · simp
    obtain ⟨h1, -, h3⟩ := lineOf_spec inp
    have hr := lineOf_rest inp h0
    have h4 := ih (f s (lineOf inp).1).1 (lineOf inp).2.2
    have h5 := hf s (lineOf inp).1
    have hl : inp.length = (lineOf inp).1.length + (feedOf (lineOf inp).2.1).length + (lineOf inp).2.2.length := by
      conv => lhs; rw [h1]
      simp only [List.length_append]
    simp only [List.length_append]
    generalize (lineOf inp).1.length = a at *
    generalize hb : (feedOf (lineOf inp).2.1).length = b at *
    generalize (lineOf inp).2.2.length = c at *
    have hb1 : b ≤ 1 := by rw [← hb]; cases (lineOf inp).2.1 <;> simp [feedOf]
    rw [hl, Nat.mul_add]
    have e1 : (C + D + 1) * (a + b) = C * a + C * b + (D + 1) * (a + b) := by
      rw [Nat.add_assoc C D 1, Nat.add_mul, Nat.mul_add]
    have e2 : (D + 1) * 1 ≤ (D + 1) * (a + b) := Nat.mul_le_mul_left _ (by omega)
    omega
theorem runs_len {σ : Type} (f : σ → Bytes → σ × Bytes) (most C D : Nat) (hf : ∀ s l, (f s l).2.length ≤ C * l.length + D) (s : σ) (inp : Bytes) : (runs f most s inp).1.length ≤ (C + D + 1) * inp.length := runsF_len f most C D hf _ s inp

theorem foldF_len (sp : Bool) (w : Nat) (hw : 1 ≤ w) : ∀ (k : Nat) (l : Bytes), (foldF sp w k l).length ≤ 2 * l.length := by
  intro k
  induction k with
  | zero => intro l; simp [foldF]
  | succ k ih =>
    intro l
    rw [foldF]
    by_cases h0 : l = []
    · rw [if_pos h0]; simp
    rw [if_neg h0]
    simp only
    have hl : 0 < l.length := List.length_pos_iff.2 h0
    split
    · omega
    · have hm : 1 ≤ (if sp = true then lastBlank (l.take (min l.length w)) else min l.length w) := by
        split
        · refine (lastBlank_le _ ?_).1
          intro e
          have := congrArg List.length e
          rw [List.length_take, List.length_nil] at this
          omega
        · omega
      generalize (if sp = true then lastBlank (l.take (min l.length w)) else min l.length w) = m at *
      have := ih (l.drop m)
      rw [List.length_drop] at this
      simp only [List.length_append, List.length_take, List.length_cons, List.length_nil]
      omega
theorem fold_len (sp : Bool) (w most : Nat) (hw : 1 ≤ w) (inp : Bytes) : (runs (still (fold sp w)) most () inp).1.length ≤ 3 * inp.length := runs_len _ most 2 0 (fun _ l => foldF_len sp w hw _ l) () inp

theorem nextOf_le (s col : Nat) : nextOf s col - col ≤ s := by unfold nextOf; omega
theorem expandF_len (s : Nat) (hs : 1 ≤ s) : ∀ (l : Bytes) (col : Nat), (expandF s col l).length ≤ s * l.length := by
  intro l
  induction l with
  | nil => intro col; simp [expandF]
  | cons c r ih =>
    intro col
    rw [expandF, List.length_append, List.length_cons, Nat.mul_succ]
    have h1 := ih (tabCol s col c)
    have h2 := nextOf_le s col
    have h3 : (if c = 9 then List.replicate (nextOf s col - col) 32 else [c]).length ≤ s := by
      split
      · rw [List.length_replicate]; exact h2
      · simpa using hs
    omega
theorem expand_len (s most : Nat) (hs : 1 ≤ s) (inp : Bytes) : (runs (still (expand s)) most () inp).1.length ≤ (s + 1) * inp.length := runs_len _ most s 0 (fun _ l => expandF_len s hs l 0) () inp
theorem unexpand_len (s most : Nat) (hs : 1 ≤ s) (inp : Bytes) : (runs (still (unexpand s)) most () inp).1.length ≤ 2 * inp.length := runs_len _ most 1 0 (fun _ l => by rw [Nat.one_mul]; exact (unexpand_spec s hs l.length 0 l (Nat.le_refl _)).2.1) () inp

/-- No backspace comes out that did not go in. -/
theorem runOf_no (s : Nat) : ∀ (k a b : Nat), ∀ c ∈ runOf s k a b, c ≠ 8 := by
  intro k
  induction k with
  | zero => intro a b c h; simp [runOf] at h
  | succ k ih =>
    intro a b c h
    rw [runOf] at h
    split at h
    · rw [List.eq_of_mem_replicate h]; decide
    · rcases List.mem_cons.1 h with rfl | h
      · decide
      · exact ih _ _ c h
theorem unexpandF_no (s : Nat) : ∀ (k col : Nat) (l : Bytes), (∀ c ∈ l, c ≠ 8) → ∀ c ∈ unexpandF s k col l, c ≠ 8 := by
  intro k
  induction k with
  | zero => intro col l _ c h; simp [unexpandF] at h
  | succ k ih =>
    intro col l hl c h
    cases l with
    | nil => simp [unexpandF] at h
    | cons d r =>
      rw [unexpandF] at h
      simp only at h
      split at h
      · rcases List.mem_append.1 h with h | h
        · unfold pieceOf at h
          split at h
          · exact hl c ((List.takeWhile_sublist _).subset h)
          · exact runOf_no s _ _ _ c h
        · exact ih _ _ (fun x hx => hl x ((List.dropWhile_sublist _).subset hx)) c h
      · rcases List.mem_cons.1 h with rfl | h
        · exact hl _ (by simp)
        · exact ih _ _ (fun x hx => hl x (by simp [hx])) c h
theorem runsF_no {σ : Type} (f : σ → Bytes → σ × Bytes) (most : Nat) (hf : ∀ s l, (∀ c ∈ l, c ≠ 8) → ∀ c ∈ (f s l).2, c ≠ 8) : ∀ (k : Nat) (s : σ) (inp : Bytes), (∀ c ∈ inp, c ≠ 8) → ∀ c ∈ (runsF f most k s inp).1, c ≠ 8 := by
  intro k
  induction k with
  | zero => intro s inp _ c h; simp [runsF] at h
  | succ k ih =>
    intro s inp hi c h
    rw [runsF] at h
    by_cases h0 : inp = []
    · rw [if_pos h0] at h; simp at h
    rw [if_neg h0] at h
    simp only at h
    split at h
    · simp at h
    obtain ⟨h1, -, -⟩ := lineOf_spec inp
    have hi2 : ∀ c ∈ (lineOf inp).1 ++ feedOf (lineOf inp).2.1 ++ (lineOf inp).2.2, c ≠ 8 := by rw [← h1]; exact hi
    simp only [List.mem_append] at h hi2
    rcases h with (h | h) | h
    · exact hf s _ (fun x hx => hi2 x (.inl (.inl hx))) c h
    · exact hi2 c (.inl (.inr h))
    · exact ih _ _ (fun x hx => hi2 x (.inr hx)) c h
theorem unexpand_no (s most : Nat) (inp : Bytes) (h : ∀ c ∈ inp, c ≠ 8) : ∀ c ∈ (runs (still (unexpand s)) most () inp).1, c ≠ 8 := runsF_no _ most (fun _ l hl => unexpandF_no s _ 0 l hl) _ () inp h

end Go.Proofs.YtihigdcfibjbpaaGreatDoor.Wi

/-
  The runs that the law WidthFolds makes. Conditions: widths from 1 to 1000; lengths.
-/
namespace Go.Proofs.YtihigdcfibjbpaaGreatDoor
open Go.RowKit Go.Shelf Go.Maps

def foldArgs (sp : Bool) (D : Bts) : List Bts := [[102, 111, 108, 100], [45, 98], [45, 119], D] ++ (if sp then [[45, 115]] else [])
theorem foldRun (sp : Bool) (n : Nat) (h1 : 1 ≤ n) (h2 : n ≤ 1000) (inp : Bts) (hin : inp.length ≤ 1048576) (buf line run : Nat) (g1 : 1 ≤ buf) (g2 : 1 ≤ line) (g3 : line ≤ run) (g4 : run ≤ 1099511627776) (g5 : buf ≤ 1099511627776) :
    RunQ (foldArgs sp (Lib.itoa (n : Int))) inp (Wi.runs (Wi.still (Wi.fold sp n)) line () inp) buf line run := by
  have hil := Lib.itoa_length_le (n : Int) (by omega) (by omega)
  have hno := number_itoa n 2147483647 (by omega) (by omega)
  obtain ⟨D, hD⟩ : ∃ D, Lib.itoa (n : Int) = D := ⟨_, rfl⟩
  rw [hD] at hil hno ⊢
  have hlen := Wi.fold_len sp n line h1 inp
  cases sp with
  | false =>
    refine runQ_fold [[45, 98], [45, 119], D] (by simp) (by simp) (by simp [totL]; omega) [(98, []), (119, D)] rfl (by simp) (by simp; omega) n ?_ h1 (by omega) inp (by omega) (fun c _ => .inl rfl) buf line run g1 g2 g3 g4 g5 (show (Wi.runs (Wi.still (Wi.fold false n)) line () inp).1.length ≤ 4294967296 by omega)
    unfold numOpt
    rw [show Op.last [(98, []), (119, D)] 119 = some D from rfl]
    simp only [hno]
    simp; omega
  | true =>
    refine runQ_fold [[45, 98], [45, 119], D, [45, 115]] (by simp) (by simp) (by simp [totL]; omega) [(98, []), (119, D), (115, [])] rfl (by simp) (by simp; omega) n ?_ h1 (by omega) inp (by omega) (fun c _ => .inl rfl) buf line run g1 g2 g3 g4 g5 (show (Wi.runs (Wi.still (Wi.fold true n)) line () inp).1.length ≤ 4294967296 by omega)
    unfold numOpt
    rw [show Op.last [(98, []), (119, D), (115, [])] 119 = some D from rfl]
    simp only [hno]
    simp; omega

end Go.Proofs.YtihigdcfibjbpaaGreatDoor

/-
  The walk of the law WidthFolds. Conditions: lengths; what the library's variables hold.
-/
namespace Go.Proofs.YtihigdcfibjbpaaGreatDoor
open Go.RowKit Go.Shelf Go.Maps

theorem mayB_false {buf line run : Int} (h : mayB buf line run = true) : 1 ≤ buf ∧ 1 ≤ line ∧ line ≤ run ∧ buf ≤ 1099511627776 ∧ run ≤ 1099511627776 := by
  unfold mayB at h
  simp at h
  omega
theorem foldsOk_step (n : Nat) (c : UInt8) (r inp : Bts) (wide : Nat) (h : Wi.foldsOk n (c :: r) inp wide = true) :
    (if c = 10 then 0 else wide + 1) ≤ n ∧ ((∃ t, inp = c :: t ∧ Wi.foldsOk n r t (if c = 10 then 0 else wide + 1) = true) ∨ ((∀ d t, inp = d :: t → c ≠ d) ∧ c = 10 ∧ Wi.foldsOk n r inp 0 = true)) := by
  cases inp with
  | nil =>
    simp [Wi.foldsOk] at h
    obtain ⟨h1, h2, h3⟩ := h
    rw [if_pos h2] at h3
    exact ⟨h1, .inr ⟨fun d t e => (by cases e), h2, h3⟩⟩
  | cons d t =>
    simp [Wi.foldsOk] at h
    obtain ⟨h1, h2⟩ := h
    refine ⟨h1, ?_⟩
    by_cases hd : c = d
    · rw [if_pos hd] at h2
      subst hd
      exact .inl ⟨t, rfl, h2⟩
    · rw [if_neg hd] at h2
      obtain ⟨h3, h4⟩ := h2
      rw [if_pos h3] at h4
      exact .inr ⟨fun d' t' e => by injection e with e1 e2; rw [← e1]; exact hd, h3, h4⟩
theorem ss_own {w : World} {B g n c : Nat} {l : List Bts} (h : w.ownsRow B 9 1 (.slice (some ⟨g, 0, none⟩) n c) n (l.map strV)) : Ss w (some ⟨g, 0, none⟩) l := fun _ => ⟨g, 0, rfl, fun i hi => by
  have hn : n = l.length := by have := h.1; simpa using this.symm
  rw [Nat.zero_add, h.cellAt i (by omega), List.getElem?_map, List.getElem?_eq_getElem hi, List.getD_eq_getElem?_getD, List.getElem?_eq_getElem hi]
  rfl⟩
theorem drop_cons {l : Bts} {k : Nat} {c : UInt8} {t : Bts} (h : l.drop k = c :: t) : k < l.length ∧ l.getD k 0 = c ∧ l.drop (k + 1) = t := by
  have hk : k < l.length := by
    have := congrArg List.length h
    rw [List.length_drop, List.length_cons] at this
    omega
  rw [List.drop_eq_getElem_cons hk] at h
  injection h with h1 h2
  exact ⟨hk, by rw [List.getD_eq_getElem?_getD, List.getElem?_eq_getElem hk]; exact h1, h2⟩

set_option maxRecDepth 100000 in
set_option maxHeartbeats 8000000 in
theorem folds_f (inp : Bts) (hin : inp.length ≤ 1048576) (pi : Option Addr) (ci : Nat) (n : Int) (hn1 : -9223372036854775808 ≤ n) (hn2 : n ≤ 9223372036854775807) (buf line run : Int) (w : World) (hg : Glo w) (hi : Bs w pi inp) :
    Calls Tryz.prog 4 #[.slice pi inp.length ci, .int .i64 n, .bool false, .agg #[.int .i64 buf, .int .i64 line, .int .i64 run]] w fun e w' => e = .returned (.bool true) ∧ Below w.heap.size w w' := by
  obtain ⟨w0, hw0⟩ : ∃ w0, w.alloc (.cells #[.int .i64 buf, .int .i64 line, .int .i64 run] 31) = w0 := ⟨_, rfl⟩
  have hb0 : Below w.heap.size w w0 := by rw [← hw0]; exact (Below.refl _ _).alloc (Nat.le_refl _) _
  have hk0 : Blk w0 w.heap.size #[.int .i64 buf, .int .i64 line, .int .i64 run] 31 := by rw [← hw0]; exact Blk.new _ _ _
  have haw := awake_any w0 (hg.below hb0)
  have HG := Lib.hid hg
  have HI := Lib.hid hi
  have HW0 := Lib.hid hw0
  have HB0 := Lib.hid hb0
  have HLIM := Lib.hid hk0
  have HN := Lib.hid (And.intro hn1 hn2)
  clear hg hi hw0 hb0 hk0
  go_enter Tryz.func4, Tryz.ntmps4
  go_wp2_with fail
  rw [HW0.out]
  refine haw.mono ?_
  rintro e w1 ⟨rfl, hb1⟩
  have hbw1 := HB0.out.trans (hb1.mono HB0.out.size)
  have hdg := digits_any n HN.out.1 HN.out.2 w1 (HG.out.below hbw1)
  obtain ⟨D, hD⟩ : ∃ D, Lib.itoa n = D := ⟨_, rfl⟩
  rw [hD] at hdg
  have HD := Lib.hid hD
  have HBW1 := Lib.hid hbw1
  have HB1 := Lib.hid hb1
  clear haw hbw1 hb1 hD
  go_wp2_with fail
  refine hdg.mono ?_
  rintro e w2 ⟨rfl, hb2⟩
  have HB02 := Lib.hid (HB1.out.trans (hb2.mono HB1.out.size))
  clear hdg hb2
  have hblk : Blk (w2.alloc (.cells #[.string ⟨#[102, 111, 108, 100]⟩, .string ⟨#[45, 98]⟩, .string ⟨#[45, 119]⟩, .string ⟨D.toArray⟩] 9)) w2.heap.size #[.string ⟨#[102, 111, 108, 100]⟩, .string ⟨#[45, 98]⟩, .string ⟨#[45, 119]⟩, .string ⟨D.toArray⟩] 9 := Blk.new _ _ _
  obtain ⟨wA, hwA⟩ : ∃ wA, w2.alloc (.cells #[.string ⟨#[102, 111, 108, 100]⟩, .string ⟨#[45, 98]⟩, .string ⟨#[45, 119]⟩, .string ⟨D.toArray⟩] 9) = wA := ⟨_, rfl⟩
  rw [hwA] at hblk
  have hbA : Below w0.heap.size w0 wA := by rw [← hwA]; exact HB02.out.alloc HB02.out.size _
  have hss : Ss wA (some ⟨w2.heap.size, 0, none⟩) (foldArgs false D) := ss_lit (t := 9) hblk
  have l0 := (HLIM.out.keep hbA HLIM.out.lt).cell 0 (v := .int .i64 buf) rfl
  have l1 := (HLIM.out.keep hbA HLIM.out.lt).cell 1 (v := .int .i64 line) rfl
  have l2 := (HLIM.out.keep hbA HLIM.out.lt).cell 2 (v := .int .i64 run) rfl
  rw [← hwA] at l0 l1 l2
  have hmay := rmay_any (some ⟨w2.heap.size, 0, none⟩) 4 4 (by decide) buf line run wA
  have HWA := Lib.hid hwA
  have HBA := Lib.hid hbA
  have HSS := Lib.hid hss
  unfold jobV at hmay
  clear hwA hbA hss hblk
  go_wp2_with fail
  rw [HWA.out]
  clear l0 l1 l2
  obtain ⟨pa, hpa⟩ : ∃ pa, some (⟨w2.heap.size, 0, none⟩ : Addr) = pa := ⟨_, rfl⟩
  rw [hpa] at hmay HSS ⊢
  refine hmay.mono ?_
  rintro e w5 ⟨rfl, hb5⟩
  have HB05 := Lib.hid (HBA.out.trans (hb5.mono HBA.out.size))
  have HSS5 := Lib.hid (HSS.out.below hb5)
  clear hmay hb5
  cases hm : mayB buf line run with
  | false =>
    have HFIN := Lib.hid (HB0.out.trans (HB05.out.mono HB0.out.size))
    clear hm
    go_wp2_with fail
    go_ret
    exact ⟨rfl, HFIN.out⟩
  | true =>
    have HM := Lib.hid (mayB_false hm)
    clear hm
    by_cases hlow : n < 1
    · have e1 : decide (n < 1) = true := by simpa using hlow
      have HFIN := Lib.hid (HB0.out.trans (HB05.out.mono HB0.out.size))
      clear hlow
      go_wp2_with fail
      go_ret
      exact ⟨rfl, HFIN.out⟩
    · have e1 : decide (n < 1) = false := by simpa using hlow
      by_cases hhi : 1000 < n
      · have e2 : decide (1000 < n) = true := by simpa using hhi
        have HFIN := Lib.hid (HB0.out.trans (HB05.out.mono HB0.out.size))
        clear hlow hhi
        go_wp2_with fail
        go_ret
        exact ⟨rfl, HFIN.out⟩
      · have e2 : decide (1000 < n) = false := by simpa using hhi
        obtain ⟨N, rfl⟩ : ∃ N : Nat, n = N := ⟨n.toNat, by omega⟩
        have hm := HM.out
        obtain ⟨bN, rfl⟩ : ∃ b : Nat, buf = b := ⟨buf.toNat, by omega⟩
        obtain ⟨lN, rfl⟩ : ∃ b : Nat, line = b := ⟨line.toNat, by omega⟩
        obtain ⟨rN, rfl⟩ : ∃ b : Nat, run = b := ⟨run.toNat, by omega⟩
        have hrunq := foldRun false N (by omega) (by omega) inp hin bN lN rN (by omega) (by omega) (by omega) (by omega) (by omega)
        rw [HD.out] at hrunq
        have hlaw := Wi.folds_law N (by omega) false lN inp.length inp 0 (Nat.le_refl _) (.inl rfl)
        obtain ⟨R, hR⟩ : ∃ R, Wi.runs (Wi.still (Wi.fold false N)) lN () inp = R := ⟨_, rfl⟩
        rw [hR] at hrunq
        change (Wi.runs (Wi.still (Wi.fold false N)) lN () inp).2 = true → Wi.foldsOk N (Wi.runs (Wi.still (Wi.fold false N)) lN () inp).1 inp 0 = true at hlaw
        rw [hR] at hlaw
        have hol := Wi.fold_len false N lN (by omega) inp
        rw [hR] at hol
        have HOL := Lib.hid (show R.1.length ≤ 4194304 by omega)
        have hrun := hrunq w5 pa 4 pi ci (HG.out.below (HB0.out.trans (HB05.out.mono HB0.out.size))) HSS5.out ((HI.out.below HB0.out (Nat.le_refl _)).below HB05.out (Nat.le_refl _))
        have m0 := (HLIM.out.keep HB05.out HLIM.out.lt).cell 0 (v := .int .i64 bN) rfl
        have m1 := (HLIM.out.keep HB05.out HLIM.out.lt).cell 1 (v := .int .i64 lN) rfl
        have m2 := (HLIM.out.keep HB05.out HLIM.out.lt).cell 2 (v := .int .i64 rN) rfl
        rw [show (foldArgs false D).length = 4 from rfl] at hrun
        have HLAW := Lib.hid hlaw
        have HRUN := Lib.hid hrun
        have hN1 : N ≤ 1000 := by omega
        clear hlaw hR hrunq hol hlow hhi hm hrun
        go_wp2_with fail
        refine HRUN.out.mono ?_
        rintro e w6 ⟨ov, ev, st, pk, er, rfl, so, se, hb6⟩
        obtain ⟨po, co, rfl, hob, hoc⟩ := id so.bs
        obtain ⟨pe, ce, rfl, -, -⟩ := id se.bs
        clear HRUN m0 m1 m2
        obtain ⟨OUT, OK⟩ := R
        simp only at hob hoc
        obtain ⟨w7, hw7⟩ : ∃ w7, w6.alloc (.cells #[.slice po OUT.length co, .slice pe er.length ce, .int .i64 (if OK then 0 else 1), .slice none 0 0, .int .i64 st, .int .i64 pk, .int .i64 0] 40) = w7 := ⟨_, rfl⟩
        have hb06 := HB05.out.trans (hb6.mono HB05.out.size)
        have hb07 : Below w0.heap.size w0 w7 := by rw [← hw7]; exact hb06.alloc hb06.size _
        have hr7 : Blk w7 w6.heap.size #[.slice po OUT.length co, .slice pe er.length ce, .int .i64 (if OK then 0 else 1), .slice none 0 0, .int .i64 st, .int .i64 pk, .int .i64 0] 40 := by rw [← hw7]; exact Blk.new _ _ _
        have hob7 : Bs w7 po OUT := hob.below (B := w6.heap.size) (by rw [← hw7]; exact (Below.refl _ _).alloc (Nat.le_refl _) _) (Nat.le_refl _)
        have hib7 : Bs w7 pi inp := (HI.out.below HB0.out (Nat.le_refl _)).below hb07 (Nat.le_refl _)
        have HFIN := Lib.hid (HB0.out.trans (hb07.mono HB0.out.size))
        have HW7 := Lib.hid hw7
        have HOB := Lib.hid hob7
        have HIB := Lib.hid hib7
        have HR7 := Lib.hid hr7
        clear hw7 hob hb06 hb07 hr7 hob7 hib7 so se hb6
        go_upto_region 9 with fail
        rw [HW7.out]
        cases OK with
        | false =>
          have r2 := HR7.out.cell 2 (v := .int .i64 1) rfl
          go_wp2_with fail
          go_ret
          exact ⟨rfl, HFIN.out⟩
        | true =>
          have r0 := HR7.out.cell 0 (v := .slice po OUT.length co) rfl
          have r2 := HR7.out.cell 2 (v := .int .i64 0) rfl
          have hfo : Wi.foldsOk N OUT inp 0 = true := HLAW.out rfl
          have HFO := Lib.hid hfo
          have hol : OUT.length ≤ 4194304 := HOL.out
          clear hfo
          go_wp2_with fail
          go_loopw [14, 15, 16] (fun x14 x15 x16 wr => ∃ i k wide : Nat, x16 = .int .i64 i ∧ x14 = .int .i64 k ∧ x15 = .int .i64 wide ∧ i ≤ OUT.length ∧ k ≤ inp.length ∧ wide ≤ 1000 ∧ Hid (Wi.foldsOk N (OUT.drop i) (inp.drop k) wide = true) ∧ Hid (Below w7.heap.size w7 wr)) (fun _ _ x16 _ => OUT.length - (intOf x16).toNat)
          case atStart => exact ⟨0, 0, 0, rfl, rfl, rfl, Nat.zero_le _, Nat.zero_le _, Nat.zero_le _, Lib.hid (by rw [List.drop_zero, List.drop_zero]; exact HFO.out), Lib.hid (Below.refl _ _)⟩
          case round =>
            obtain ⟨i, k, wide, rfl, rfl, rfl, hi, hk, hwd, HF, HBL⟩ := hrel
            have q0 := (HR7.out.keep HBL.out HR7.out.lt).cell 0 (v := .slice po OUT.length co) rfl
            clear r0 r2
            by_cases hlt : i < OUT.length
            · obtain ⟨c, hc⟩ : ∃ c, OUT[i] = c := ⟨_, rfl⟩
              have hf := HF.out
              rw [List.drop_eq_getElem_cons hlt, hc] at hf
              obtain ⟨hle, hstep⟩ := foldsOk_step N c _ _ wide hf
              have hgd : OUT.getD i 0 = c := by rw [List.getD_eq_getElem?_getD, List.getElem?_eq_getElem hlt, hc]; rfl
              obtain ⟨bo, oo, rfl, hco⟩ := HOB.out (by omega)
              have hcc := hco i hlt
              rw [hgd] at hcc
              have hcr := (HBL.out.cell (p := ⟨bo, oo + i, none⟩) (World.block_lt_of_cell? _ _ hcc)).trans hcc
              have HSTEP := Lib.hid hstep
              have HLE := Lib.hid hle
              clear hf hstep hle hco hcc hgd hc
              have g1 : decide ((i : Int) < OUT.length) = true := by simp; omega
              have g2 : decide (i < OUT.length) = true := by simp; omega
              have g3 : (0 : Int) ≤ i := by omega
              have g4 : (i : Int) < OUT.length := by omega
              have g5 : (0 : Int) ≤ k := by omega
              by_cases hc10 : c = 10
              · subst hc10
                have hcr2 : wr.cell? ⟨bo, oo + i, none⟩ = some (.int .u8 10) := hcr
                have f1 : decide ((N : Int) < 0) = false := by simp <;> omega
                rcases HSTEP.out with ⟨t, ht, h2⟩ | ⟨hne, -, h2⟩
                · obtain ⟨hkl, hgk, hdk⟩ := drop_cons ht
                  obtain ⟨bi, oi, rfl, hci2⟩ := HIB.out (by omega)
                  have hik := hci2 k hkl
                  rw [hgk] at hik
                  have hir : wr.cell? ⟨bi, oi + k, none⟩ = some (.int .u8 10) := (HBL.out.cell (p := ⟨bi, oi + k, none⟩) (World.block_lt_of_cell? _ _ hik)).trans hik
                  have f2 : decide ((k : Int) < inp.length) = true := by simp; omega
                  have f3 : (k : Int) < inp.length := by omega
                  have H2 : Hid (Wi.foldsOk N (OUT.drop (i + 1)) (inp.drop (k + 1)) 0 = true) := Lib.hid (by rw [hdk]; exact h2)
                  clear hcr hci2 hik ht h2 hgk hdk
                  go_upto_region 23 with fail
                  go_region
                  go_wp2_with fail
                  go_roundw
                  case rel => exact ⟨i + 1, k + 1, 0, by go_num, by go_num, rfl, by omega, by omega, by omega, H2, Lib.hid (HBL.out.drew)⟩
                  case measure => simp [intOf]; omega
                · by_cases hkl : k < inp.length
                  · obtain ⟨d, hd⟩ : ∃ d, inp.getD k 0 = d := ⟨_, rfl⟩
                    have hdd : (10 : UInt8) ≠ d := by
                      refine hne d (inp.drop (k + 1)) ?_
                      rw [List.drop_eq_getElem_cons hkl, ← hd, List.getD_eq_getElem?_getD, List.getElem?_eq_getElem hkl]
                      rfl
                    obtain ⟨bi, oi, rfl, hci2⟩ := HIB.out (by omega)
                    have hik := hci2 k hkl
                    rw [hd] at hik
                    have hir := (HBL.out.cell (p := ⟨bi, oi + k, none⟩) (World.block_lt_of_cell? _ _ hik)).trans hik
                    have f2 : decide ((k : Int) < inp.length) = true := by simp; omega
                    have f3 : (k : Int) < inp.length := by omega
                    have f4 : ((10 : Int) == (d.toNat : Int)) = false := by
                      have := u8_lit (n := 10) (c := d) (fun e => hdd e.symm) (by decide)
                      simp; omega
                    have f5 : ¬ ((10 : Int) = (d.toNat : Int)) := by simpa using f4
                    have H2 := Lib.hid h2
                    clear hcr hci2 hik h2 hne hd hdd
                    go_upto_region 23 with fail
                    go_region
                    go_wp2_with fail
                    go_roundw
                    case rel => exact ⟨i + 1, k, 0, by go_num, rfl, rfl, by omega, by omega, by omega, H2, Lib.hid (HBL.out.drew)⟩
                    case measure => simp [intOf]; omega
                  · have f2 : decide ((k : Int) < inp.length) = false := by simp; omega
                    have H2 := Lib.hid h2
                    clear hcr h2 hne
                    go_upto_region 23 with fail
                    go_region
                    go_wp2_with fail
                    go_roundw
                    case rel => exact ⟨i + 1, k, 0, by go_num, rfl, rfl, by omega, by omega, by omega, H2, Lib.hid (HBL.out.drew)⟩
                    case measure => simp [intOf]; omega
              · have hle := HLE.out
                rw [if_neg hc10] at hle
                have f0 : ((c.toNat : Int) == 10) = false := by simpa using u8_lit (n := 10) hc10 (by decide)
                have f1 : decide ((N : Int) < (wide : Int) + 1) = false := by simp; omega
                rcases HSTEP.out with ⟨t, ht, h2⟩ | ⟨-, h10, -⟩
                · obtain ⟨hkl, hgk, hdk⟩ := drop_cons ht
                  rw [if_neg hc10] at h2
                  obtain ⟨bi, oi, rfl, hci2⟩ := HIB.out (by omega)
                  have hik := hci2 k hkl
                  rw [hgk] at hik
                  have hir := (HBL.out.cell (p := ⟨bi, oi + k, none⟩) (World.block_lt_of_cell? _ _ hik)).trans hik
                  have f2 : decide ((k : Int) < inp.length) = true := by simp; omega
                  have f3 : (k : Int) < inp.length := by omega
                  have H2 : Hid (Wi.foldsOk N (OUT.drop (i + 1)) (inp.drop (k + 1)) (wide + 1) = true) := Lib.hid (by rw [hdk]; exact h2)
                  clear hci2 hik ht h2 hgk hdk hc10
                  go_upto_region 23 with fail
                  go_region
                  go_wp2_with fail
                  go_roundw
                  case rel => exact ⟨i + 1, k + 1, wide + 1, by go_num, by go_num, by go_num, by omega, by omega, by omega, H2, Lib.hid (HBL.out.drew)⟩
                  case measure => simp [intOf]; omega
                · exact absurd h10 hc10
            · obtain rfl : i = OUT.length := by omega
              have g1 : decide ((OUT.length : Int) < OUT.length) = false := by simp
              have hke : k = inp.length := by
                have h := HF.out
                rw [List.drop_of_length_le (Nat.le_refl _)] at h
                have h2 : (inp.drop k).isEmpty = true := by
                  cases hd : inp.drop k with
                  | nil => rfl
                  | cons a b => rw [hd] at h; cases wide <;> simp [Wi.foldsOk] at h
                have h3 : inp.length ≤ k := by simpa using h2
                omega
              subst hke
              go_wp2_with fail
              go_ret
              exact ⟨rfl, HFIN.out.trans (HBL.out.mono HFIN.out.size)⟩

set_option maxRecDepth 100000 in
set_option maxHeartbeats 8000000 in
theorem folds_t (inp : Bts) (hin : inp.length ≤ 1048576) (pi : Option Addr) (ci : Nat) (n : Int) (hn1 : -9223372036854775808 ≤ n) (hn2 : n ≤ 9223372036854775807) (buf line run : Int) (w : World) (hg : Glo w) (hi : Bs w pi inp) :
    Calls Tryz.prog 4 #[.slice pi inp.length ci, .int .i64 n, .bool true, .agg #[.int .i64 buf, .int .i64 line, .int .i64 run]] w fun e w' => e = .returned (.bool true) ∧ Below w.heap.size w w' := by
  obtain ⟨w0, hw0⟩ : ∃ w0, w.alloc (.cells #[.int .i64 buf, .int .i64 line, .int .i64 run] 31) = w0 := ⟨_, rfl⟩
  have hb0 : Below w.heap.size w w0 := by rw [← hw0]; exact (Below.refl _ _).alloc (Nat.le_refl _) _
  have hk0 : Blk w0 w.heap.size #[.int .i64 buf, .int .i64 line, .int .i64 run] 31 := by rw [← hw0]; exact Blk.new _ _ _
  have haw := awake_any w0 (hg.below hb0)
  have HG := Lib.hid hg
  have HI := Lib.hid hi
  have HW0 := Lib.hid hw0
  have HB0 := Lib.hid hb0
  have HLIM := Lib.hid hk0
  have HN := Lib.hid (And.intro hn1 hn2)
  clear hg hi hw0 hb0 hk0
  go_enter Tryz.func4, Tryz.ntmps4
  go_wp2_with fail
  rw [HW0.out]
  refine haw.mono ?_
  rintro e w1 ⟨rfl, hb1⟩
  have hbw1 := HB0.out.trans (hb1.mono HB0.out.size)
  have hdg := digits_any n HN.out.1 HN.out.2 w1 (HG.out.below hbw1)
  obtain ⟨D, hD⟩ : ∃ D, Lib.itoa n = D := ⟨_, rfl⟩
  rw [hD] at hdg
  have HD := Lib.hid hD
  have HBW1 := Lib.hid hbw1
  have HB1 := Lib.hid hb1
  clear haw hbw1 hb1 hD
  go_wp2_with fail
  refine hdg.mono ?_
  rintro e w2 ⟨rfl, hb2⟩
  have HB02 := Lib.hid (HB1.out.trans (hb2.mono HB1.out.size))
  clear hdg hb2
  have hblk : Blk (w2.alloc (.cells #[.string ⟨#[102, 111, 108, 100]⟩, .string ⟨#[45, 98]⟩, .string ⟨#[45, 119]⟩, .string ⟨D.toArray⟩] 9)) w2.heap.size #[.string ⟨#[102, 111, 108, 100]⟩, .string ⟨#[45, 98]⟩, .string ⟨#[45, 119]⟩, .string ⟨D.toArray⟩] 9 := Blk.new _ _ _
  obtain ⟨i0, hi0, hz0, hz1, hz2⟩ := info_parts info_str
  have hown : (w2.alloc (.cells #[.string ⟨#[102, 111, 108, 100]⟩, .string ⟨#[45, 98]⟩, .string ⟨#[45, 119]⟩, .string ⟨D.toArray⟩] 9)).ownsRow w2.heap.size 9 1 (.slice (some ⟨w2.heap.size, 0, none⟩) 4 4) 4 [.string ⟨#[102, 111, 108, 100]⟩, .string ⟨#[45, 98]⟩, .string ⟨#[45, 119]⟩, .string ⟨D.toArray⟩] := ⟨rfl, .inr ⟨w2.heap.size, 4, _, rfl, Nat.le_refl _, hblk, Nat.le_refl _, by decide, rfl, rfl⟩⟩
  have HOWN := Lib.hid hown
  clear hown hblk
  go_wp2_with (at_builtin; refine wpList_append_own _ rfl _ _ 33 rfl w2.heap.size 9 i0 (.string ⟨#[]⟩) 1 16 Tryz.underlying33 hi0 hz0 hz1 hz2 rfl (by decide) _ _ _ rfl (HOWN.out.alloc _) ⟨w2.heap.size + 1, 0, none⟩ 1 1 [.string ⟨#[45, 115]⟩] rfl rfl (by have := cell_one_new (w2.alloc (.cells #[.string ⟨#[102, 111, 108, 100]⟩, .string ⟨#[45, 98]⟩, .string ⟨#[45, 119]⟩, .string ⟨D.toArray⟩] 9)) (.string ⟨#[45, 115]⟩) 9; simpa only [World.size_alloc] using this) (by simp [Value.oneCell']) (by decide) (by decide) (by simp <;> omega) ?_; intro v' wA hown' hgrow _; obtain ⟨ga, ca, rfl⟩ := own_slice (n := 4) hown'; have hbA : Below w0.heap.size w0 wA := ((HB02.out.alloc HB02.out.size _).alloc (by have := HB02.out.size; simp <;> omega) _).grown hgrow (by have := HB02.out.size; simp <;> omega) (fun j hj => by have := (HOWN.out.lt j hj).1; have := HB02.out.size; omega); have hss : Ss wA (some ⟨ga, 0, none⟩) (foldArgs true D) := ss_own (show wA.ownsRow w2.heap.size 9 1 (.slice (some ⟨ga, 0, none⟩) 5 ca) 5 ((foldArgs true D).map strV) from hown'); have l0 := (HLIM.out.keep hbA HLIM.out.lt).cell 0 (v := .int .i64 buf) rfl; have l1 := (HLIM.out.keep hbA HLIM.out.lt).cell 1 (v := .int .i64 line) rfl; have l2 := (HLIM.out.keep hbA HLIM.out.lt).cell 2 (v := .int .i64 run) rfl; have HBA := Lib.hid hbA; have HSS := Lib.hid hss; clear hown' hgrow hbA hss)
  clear l0 l1 l2
  have hmay := rmay_any (some ⟨ga, 0, none⟩) 5 ca (by decide) buf line run wA
  unfold jobV at hmay
  obtain ⟨pa, hpa⟩ : ∃ pa, some (⟨ga, 0, none⟩ : Addr) = pa := ⟨_, rfl⟩
  rw [hpa] at hmay HSS ⊢
  refine hmay.mono ?_
  rintro e w5 ⟨rfl, hb5⟩
  have HB05 := Lib.hid (HBA.out.trans (hb5.mono HBA.out.size))
  have HSS5 := Lib.hid (HSS.out.below hb5)
  clear hmay hb5
  cases hm : mayB buf line run with
  | false =>
    have HFIN := Lib.hid (HB0.out.trans (HB05.out.mono HB0.out.size))
    clear hm
    go_wp2_with fail
    go_ret
    exact ⟨rfl, HFIN.out⟩
  | true =>
    have HM := Lib.hid (mayB_false hm)
    clear hm
    by_cases hlow : n < 1
    · have e1 : decide (n < 1) = true := by simpa using hlow
      have HFIN := Lib.hid (HB0.out.trans (HB05.out.mono HB0.out.size))
      clear hlow
      go_wp2_with fail
      go_ret
      exact ⟨rfl, HFIN.out⟩
    · have e1 : decide (n < 1) = false := by simpa using hlow
      by_cases hhi : 1000 < n
      · have e2 : decide (1000 < n) = true := by simpa using hhi
        have HFIN := Lib.hid (HB0.out.trans (HB05.out.mono HB0.out.size))
        clear hlow hhi
        go_wp2_with fail
        go_ret
        exact ⟨rfl, HFIN.out⟩
      · have e2 : decide (1000 < n) = false := by simpa using hhi
        obtain ⟨N, rfl⟩ : ∃ N : Nat, n = N := ⟨n.toNat, by omega⟩
        have hm := HM.out
        obtain ⟨bN, rfl⟩ : ∃ b : Nat, buf = b := ⟨buf.toNat, by omega⟩
        obtain ⟨lN, rfl⟩ : ∃ b : Nat, line = b := ⟨line.toNat, by omega⟩
        obtain ⟨rN, rfl⟩ : ∃ b : Nat, run = b := ⟨run.toNat, by omega⟩
        have hrunq := foldRun true N (by omega) (by omega) inp hin bN lN rN (by omega) (by omega) (by omega) (by omega) (by omega)
        rw [HD.out] at hrunq
        have hlaw := Wi.folds_law N (by omega) true lN inp.length inp 0 (Nat.le_refl _) (.inl rfl)
        obtain ⟨R, hR⟩ : ∃ R, Wi.runs (Wi.still (Wi.fold true N)) lN () inp = R := ⟨_, rfl⟩
        rw [hR] at hrunq
        change (Wi.runs (Wi.still (Wi.fold true N)) lN () inp).2 = true → Wi.foldsOk N (Wi.runs (Wi.still (Wi.fold true N)) lN () inp).1 inp 0 = true at hlaw
        rw [hR] at hlaw
        have hol := Wi.fold_len true N lN (by omega) inp
        rw [hR] at hol
        have HOL := Lib.hid (show R.1.length ≤ 4194304 by omega)
        have hrun := hrunq w5 pa ca pi ci (HG.out.below (HB0.out.trans (HB05.out.mono HB0.out.size))) HSS5.out ((HI.out.below HB0.out (Nat.le_refl _)).below HB05.out (Nat.le_refl _))
        have m0 := (HLIM.out.keep HB05.out HLIM.out.lt).cell 0 (v := .int .i64 bN) rfl
        have m1 := (HLIM.out.keep HB05.out HLIM.out.lt).cell 1 (v := .int .i64 lN) rfl
        have m2 := (HLIM.out.keep HB05.out HLIM.out.lt).cell 2 (v := .int .i64 rN) rfl
        rw [show (foldArgs true D).length = 5 from rfl] at hrun
        have HLAW := Lib.hid hlaw
        have HRUN := Lib.hid hrun
        have hN1 : N ≤ 1000 := by omega
        clear hlaw hR hrunq hol hlow hhi hm hrun
        go_wp2_with fail
        refine HRUN.out.mono ?_
        rintro e w6 ⟨ov, ev, st, pk, er, rfl, so, se, hb6⟩
        obtain ⟨po, co, rfl, hob, hoc⟩ := id so.bs
        obtain ⟨pe, ce, rfl, -, -⟩ := id se.bs
        clear HRUN m0 m1 m2
        obtain ⟨OUT, OK⟩ := R
        simp only at hob hoc
        obtain ⟨w7, hw7⟩ : ∃ w7, w6.alloc (.cells #[.slice po OUT.length co, .slice pe er.length ce, .int .i64 (if OK then 0 else 1), .slice none 0 0, .int .i64 st, .int .i64 pk, .int .i64 0] 40) = w7 := ⟨_, rfl⟩
        have hb06 := HB05.out.trans (hb6.mono HB05.out.size)
        have hb07 : Below w0.heap.size w0 w7 := by rw [← hw7]; exact hb06.alloc hb06.size _
        have hr7 : Blk w7 w6.heap.size #[.slice po OUT.length co, .slice pe er.length ce, .int .i64 (if OK then 0 else 1), .slice none 0 0, .int .i64 st, .int .i64 pk, .int .i64 0] 40 := by rw [← hw7]; exact Blk.new _ _ _
        have hob7 : Bs w7 po OUT := hob.below (B := w6.heap.size) (by rw [← hw7]; exact (Below.refl _ _).alloc (Nat.le_refl _) _) (Nat.le_refl _)
        have hib7 : Bs w7 pi inp := (HI.out.below HB0.out (Nat.le_refl _)).below hb07 (Nat.le_refl _)
        have HFIN := Lib.hid (HB0.out.trans (hb07.mono HB0.out.size))
        have HW7 := Lib.hid hw7
        have HOB := Lib.hid hob7
        have HIB := Lib.hid hib7
        have HR7 := Lib.hid hr7
        clear hw7 hob hb06 hb07 hr7 hob7 hib7 so se hb6
        go_upto_region 9 with fail
        rw [HW7.out]
        cases OK with
        | false =>
          have r2 := HR7.out.cell 2 (v := .int .i64 1) rfl
          go_wp2_with fail
          go_ret
          exact ⟨rfl, HFIN.out⟩
        | true =>
          have r0 := HR7.out.cell 0 (v := .slice po OUT.length co) rfl
          have r2 := HR7.out.cell 2 (v := .int .i64 0) rfl
          have hfo : Wi.foldsOk N OUT inp 0 = true := HLAW.out rfl
          have HFO := Lib.hid hfo
          have hol : OUT.length ≤ 4194304 := HOL.out
          clear hfo
          go_wp2_with fail
          go_loopw [14, 15, 16] (fun x14 x15 x16 wr => ∃ i k wide : Nat, x16 = .int .i64 i ∧ x14 = .int .i64 k ∧ x15 = .int .i64 wide ∧ i ≤ OUT.length ∧ k ≤ inp.length ∧ wide ≤ 1000 ∧ Hid (Wi.foldsOk N (OUT.drop i) (inp.drop k) wide = true) ∧ Hid (Below w7.heap.size w7 wr)) (fun _ _ x16 _ => OUT.length - (intOf x16).toNat)
          case atStart => exact ⟨0, 0, 0, rfl, rfl, rfl, Nat.zero_le _, Nat.zero_le _, Nat.zero_le _, Lib.hid (by rw [List.drop_zero, List.drop_zero]; exact HFO.out), Lib.hid (Below.refl _ _)⟩
          case round =>
            obtain ⟨i, k, wide, rfl, rfl, rfl, hi, hk, hwd, HF, HBL⟩ := hrel
            have q0 := (HR7.out.keep HBL.out HR7.out.lt).cell 0 (v := .slice po OUT.length co) rfl
            clear r0 r2
            by_cases hlt : i < OUT.length
            · obtain ⟨c, hc⟩ : ∃ c, OUT[i] = c := ⟨_, rfl⟩
              have hf := HF.out
              rw [List.drop_eq_getElem_cons hlt, hc] at hf
              obtain ⟨hle, hstep⟩ := foldsOk_step N c _ _ wide hf
              have hgd : OUT.getD i 0 = c := by rw [List.getD_eq_getElem?_getD, List.getElem?_eq_getElem hlt, hc]; rfl
              obtain ⟨bo, oo, rfl, hco⟩ := HOB.out (by omega)
              have hcc := hco i hlt
              rw [hgd] at hcc
              have hcr := (HBL.out.cell (p := ⟨bo, oo + i, none⟩) (World.block_lt_of_cell? _ _ hcc)).trans hcc
              have HSTEP := Lib.hid hstep
              have HLE := Lib.hid hle
              clear hf hstep hle hco hcc hgd hc
              have g1 : decide ((i : Int) < OUT.length) = true := by simp; omega
              have g2 : decide (i < OUT.length) = true := by simp; omega
              have g3 : (0 : Int) ≤ i := by omega
              have g4 : (i : Int) < OUT.length := by omega
              have g5 : (0 : Int) ≤ k := by omega
              by_cases hc10 : c = 10
              · subst hc10
                have hcr2 : wr.cell? ⟨bo, oo + i, none⟩ = some (.int .u8 10) := hcr
                have f1 : decide ((N : Int) < 0) = false := by simp <;> omega
                rcases HSTEP.out with ⟨t, ht, h2⟩ | ⟨hne, -, h2⟩
                · obtain ⟨hkl, hgk, hdk⟩ := drop_cons ht
                  obtain ⟨bi, oi, rfl, hci2⟩ := HIB.out (by omega)
                  have hik := hci2 k hkl
                  rw [hgk] at hik
                  have hir : wr.cell? ⟨bi, oi + k, none⟩ = some (.int .u8 10) := (HBL.out.cell (p := ⟨bi, oi + k, none⟩) (World.block_lt_of_cell? _ _ hik)).trans hik
                  have f2 : decide ((k : Int) < inp.length) = true := by simp; omega
                  have f3 : (k : Int) < inp.length := by omega
                  have H2 : Hid (Wi.foldsOk N (OUT.drop (i + 1)) (inp.drop (k + 1)) 0 = true) := Lib.hid (by rw [hdk]; exact h2)
                  clear hcr hci2 hik ht h2 hgk hdk
                  go_upto_region 23 with fail
                  go_region
                  go_wp2_with fail
                  go_roundw
                  case rel => exact ⟨i + 1, k + 1, 0, by go_num, by go_num, rfl, by omega, by omega, by omega, H2, Lib.hid (HBL.out.drew)⟩
                  case measure => simp [intOf]; omega
                · by_cases hkl : k < inp.length
                  · obtain ⟨d, hd⟩ : ∃ d, inp.getD k 0 = d := ⟨_, rfl⟩
                    have hdd : (10 : UInt8) ≠ d := by
                      refine hne d (inp.drop (k + 1)) ?_
                      rw [List.drop_eq_getElem_cons hkl, ← hd, List.getD_eq_getElem?_getD, List.getElem?_eq_getElem hkl]
                      rfl
                    obtain ⟨bi, oi, rfl, hci2⟩ := HIB.out (by omega)
                    have hik := hci2 k hkl
                    rw [hd] at hik
                    have hir := (HBL.out.cell (p := ⟨bi, oi + k, none⟩) (World.block_lt_of_cell? _ _ hik)).trans hik
                    have f2 : decide ((k : Int) < inp.length) = true := by simp; omega
                    have f3 : (k : Int) < inp.length := by omega
                    have f4 : ((10 : Int) == (d.toNat : Int)) = false := by
                      have := u8_lit (n := 10) (c := d) (fun e => hdd e.symm) (by decide)
                      simp; omega
                    have f5 : ¬ ((10 : Int) = (d.toNat : Int)) := by simpa using f4
                    have H2 := Lib.hid h2
                    clear hcr hci2 hik h2 hne hd hdd
                    go_upto_region 23 with fail
                    go_region
                    go_wp2_with fail
                    go_roundw
                    case rel => exact ⟨i + 1, k, 0, by go_num, rfl, rfl, by omega, by omega, by omega, H2, Lib.hid (HBL.out.drew)⟩
                    case measure => simp [intOf]; omega
                  · have f2 : decide ((k : Int) < inp.length) = false := by simp; omega
                    have H2 := Lib.hid h2
                    clear hcr h2 hne
                    go_upto_region 23 with fail
                    go_region
                    go_wp2_with fail
                    go_roundw
                    case rel => exact ⟨i + 1, k, 0, by go_num, rfl, rfl, by omega, by omega, by omega, H2, Lib.hid (HBL.out.drew)⟩
                    case measure => simp [intOf]; omega
              · have hle := HLE.out
                rw [if_neg hc10] at hle
                have f0 : ((c.toNat : Int) == 10) = false := by simpa using u8_lit (n := 10) hc10 (by decide)
                have f1 : decide ((N : Int) < (wide : Int) + 1) = false := by simp; omega
                rcases HSTEP.out with ⟨t, ht, h2⟩ | ⟨-, h10, -⟩
                · obtain ⟨hkl, hgk, hdk⟩ := drop_cons ht
                  rw [if_neg hc10] at h2
                  obtain ⟨bi, oi, rfl, hci2⟩ := HIB.out (by omega)
                  have hik := hci2 k hkl
                  rw [hgk] at hik
                  have hir := (HBL.out.cell (p := ⟨bi, oi + k, none⟩) (World.block_lt_of_cell? _ _ hik)).trans hik
                  have f2 : decide ((k : Int) < inp.length) = true := by simp; omega
                  have f3 : (k : Int) < inp.length := by omega
                  have H2 : Hid (Wi.foldsOk N (OUT.drop (i + 1)) (inp.drop (k + 1)) (wide + 1) = true) := Lib.hid (by rw [hdk]; exact h2)
                  clear hci2 hik ht h2 hgk hdk hc10
                  go_upto_region 23 with fail
                  go_region
                  go_wp2_with fail
                  go_roundw
                  case rel => exact ⟨i + 1, k + 1, wide + 1, by go_num, by go_num, by go_num, by omega, by omega, by omega, H2, Lib.hid (HBL.out.drew)⟩
                  case measure => simp [intOf]; omega
                · exact absurd h10 hc10
            · obtain rfl : i = OUT.length := by omega
              have g1 : decide ((OUT.length : Int) < OUT.length) = false := by simp
              have hke : k = inp.length := by
                have h := HF.out
                rw [List.drop_of_length_le (Nat.le_refl _)] at h
                have h2 : (inp.drop k).isEmpty = true := by
                  cases hd : inp.drop k with
                  | nil => rfl
                  | cons a b => rw [hd] at h; cases wide <;> simp [Wi.foldsOk] at h
                have h3 : inp.length ≤ k := by simpa using h2
                omega
              subst hke
              go_wp2_with fail
              go_ret
              exact ⟨rfl, HFIN.out.trans (HBL.out.mono HFIN.out.size)⟩

theorem folds_any (inp : Bts) (hin : inp.length ≤ 1048576) (pi : Option Addr) (ci : Nat) (n : Int) (hn1 : -9223372036854775808 ≤ n) (hn2 : n ≤ 9223372036854775807) (sp : Bool) (buf line run : Int) (w : World) (hg : Glo w) (hi : Bs w pi inp) :
    Calls Tryz.prog 4 #[.slice pi inp.length ci, .int .i64 n, .bool sp, .agg #[.int .i64 buf, .int .i64 line, .int .i64 run]] w fun e w' => e = .returned (.bool true) ∧ Below w.heap.size w w' := by
  cases sp with
  | false => exact folds_f inp hin pi ci n hn1 hn2 buf line run w hg hi
  | true => exact folds_t inp hin pi ci n hn1 hn2 buf line run w hg hi

end Go.Proofs.YtihigdcfibjbpaaGreatDoor
