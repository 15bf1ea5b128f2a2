/-
  Texts of this seat put together: V8, OptSpec, O1, M1.
-/
import Derived.Test.YtbpcfjoebfbjmaaGreatDoorQ12
import Derived.Lib.Small
import Derived.Test.YtbpcfjoebfbjmaaGreatDoorQ3
import Derived.Maps.OwnSet
import Derived.Test.YtbpcfjoebfbjmaaGreatDoorQ11
import Derived.Tactics
import Derived.Tactics2
import Derived.Defers
import Derived.Recover
import Derived.Laws.Pointers
import Derived.Laws.EntriesVeiled

/-
  The walk of width's runs, at no names. Conditions: a process that runs; a filter that answers; lengths.
-/
namespace Go.Proofs.YtbpcfjoebfbjmaaGreatDoor
open Go.RowKit Go.Shelf Go.Maps

/-- What runs hands back: all lines told, or a line that is too long. -/
def RunsPost (F : Fx) (M K : Nat → Prop) (out err a0 : Bts) (r : Bts × Bool) (w : World) (e : Ending) (w' : World) : Prop :=
  ∃ inp' M', e = .returned (.int .i64 (if r.2 then 0 else 1)) ∧ PrAt w' F M' inp' (out ++ r.1) (if r.2 then err else err ++ diagOf a0 [45] 18) ∧ Kept (fun j => M j ∨ K j) w w' ∧ (∀ j, M' j → M j ∨ w.heap.size ≤ j)

theorem runs_step {σ : Type} (f : σ → Bts → σ × Bts) (most : Nat) (s : σ) (inp : Bts) (h : inp ≠ []) : Wi.runs f most s inp =
    if most < (Wi.lineOf inp).1.length then ([], false) else ((f s (Wi.lineOf inp).1).2 ++ Wi.feedOf (Wi.lineOf inp).2.1 ++ (Wi.runs f most (f s (Wi.lineOf inp).1).1 (Wi.lineOf inp).2.2).1, (Wi.runs f most (f s (Wi.lineOf inp).1).1 (Wi.lineOf inp).2.2).2) := by
  obtain ⟨c, r, rfl⟩ : ∃ c r, inp = c :: r := by cases inp with | nil => exact absurd rfl h | cons c r => exact ⟨c, r, rfl⟩
  have hl := Wi.lineOf_rest (c :: r) h
  unfold Wi.runs
  rw [List.length_cons, Wi.runsF, if_neg h]
  simp only [List.length_cons] at hl
  dsimp only
  by_cases hm : most < (Wi.lineOf (c :: r)).1.length
  · rw [if_pos hm, if_pos hm]
  · rw [if_neg hm, if_neg hm, Wi.runsF_fuel f most r.length (Wi.lineOf (c :: r)).2.2.length _ _ (by omega) (Nat.le_refl _)]
theorem runs_nil {σ : Type} (f : σ → Bts → σ × Bts) (most : Nat) (s : σ) : Wi.runs f most s [] = ([], true) := rfl
theorem line_some {inp : Bts} (h : inp ≠ []) : ((Wi.lineOf inp).2.1 || !(Wi.lineOf inp).1.isEmpty) = true := by
  cases inp with
  | nil => exact absurd rfl h
  | cons c r =>
    rw [Wi.lineOf]
    split
    · rfl
    · simp
theorem line_mem (inp : Bts) : (∀ c ∈ (Wi.lineOf inp).1, c ∈ inp) ∧ (∀ c ∈ (Wi.lineOf inp).2.2, c ∈ inp) := by
  have h := (Wi.lineOf_spec inp).1
  constructor
  · intro c hc; rw [h]; simp [hc]
  · intro c hc; rw [h]; simp [hc]

/-- Where a run of lines stands. -/
structure RunSt {σ : Type} (w wr : World) (F : Fx) (M K : Nat → Prop) (f : σ → Bts → σ × Bts) (St : σ → World → Prop) (okc : UInt8 → Prop) (rd : Nat) (s : σ) (M' : Nat → Prop) (buf : Bts) (o : Nat) (feed over : Bool) (inp' out' err : Bts) (OUT : Bts) (OK : Bool) : Prop where
  r : Rdr wr F M' rd buf o feed over inp' out' err
  st : St s wr
  eq : out' ++ (Wi.runs f F.line s (buf ++ inp')).1 = OUT ∧ (Wi.runs f F.line s (buf ++ inp')).2 = OK
  ok : ∀ c ∈ buf ++ inp', okc c
  kept : Kept (fun j => M j ∨ K j) w wr
  new : ∀ j, M' j → M j ∨ w.heap.size ≤ j
  rdw : w.heap.size ≤ rd
  tot : (buf ++ inp').length ≤ 4294967296
  big : OUT.length ≤ 4294967296

theorem RunSt.mv {σ : Type} {w wr wx : World} {F : Fx} {M K : Nat → Prop} {f : σ → Bts → σ × Bts} {St : σ → World → Prop} {okc : UInt8 → Prop} {rd : Nat} {s : σ} {M1 M2 : Nat → Prop} {buf : Bts} {o : Nat} {feed over : Bool} {inp' out' err OUT : Bts} {OK : Bool} (h : RunSt w wr F M K f St okc rd s M1 buf o feed over inp' out' err OUT OK)
    (hk : Kept (fun j => (M1 j ∨ j = rd) ∨ K j) wr wx) (hn : ∀ j, M2 j → M1 j ∨ wr.heap.size ≤ j) : Kept (fun j => M j ∨ K j) w wx ∧ ∀ j, M2 j → M j ∨ w.heap.size ≤ j :=
  ⟨h.kept.trans' hk (fun k hk e => by
    rcases e with (e | rfl) | e
    · rcases h.new k e with e | e
      · exact .inl e
      · omega
    · have := h.rdw; omega
    · exact .inr e), fun j hj => by
    rcases hn j hj with e | e
    · exact h.new j e
    · exact .inr (Nat.le_trans h.kept.size e)⟩
theorem diag_len (a b : Bts) (e : Nat) : (diagOf a b e).length ≤ a.length + b.length + 35 := by
  have := wordOf_len e
  unfold diagOf
  by_cases h : b = []
  · simp [h]; omega
  · simp [h]; omega

set_option maxRecDepth 100000 in
set_option maxHeartbeats 8000000 in
theorem runs_any {σ : Type} (g : Nat) (hent : ∀ (a : Array Value) (w : World), (callFunc g a).run Tryz.prog w = .ok (.enter g a) w) (first caps : Array Value) (K : Nat → Prop) (f : σ → Bts → σ × Bts) (St : σ → World → Prop) (okc : UInt8 → Prop) (F : Fx) (fl : Filt F.w0.heap.size g first caps K f St okc)
    (M : Nat → Prop) (inp out err a0 : Bts) (rest : List Bts) (ha : F.args = a0 :: rest) (ha0 : a0.length ≤ 1000000) (herr : err.length ≤ 1000000) (s : σ) (pn : Option Addr) (cn : Nat) (w : World) (h : PrAt w F M inp out err) (hst : St s w) (hK : ∀ j, K j → F.n0 ≤ j ∧ ¬ M j) (hok : ∀ c ∈ inp, okc c) (hbig : (out ++ (Wi.runs f F.line s inp).1).length ≤ 4294967296) :
    Calls Tryz.prog 78 #[.pointer (some ⟨F.p, 0, none⟩), .slice pn 0 cn, .func (.func g) first caps] w fun e w' => RunsPost F M K out err a0 (Wi.runs f F.line s inp) w e w' := by
  have hKl := fl.lt s w hst
  obtain ⟨w1, hw1⟩ : ∃ w1, w.alloc (.cells #[.string ⟨#[45]⟩] 9) = w1 := ⟨_, rfl⟩
  have hb1 : Below w.heap.size w w1 := by rw [← hw1]; exact (Below.refl _ _).alloc (Nat.le_refl _) _
  have hs1 : w1.heap.size = w.heap.size + 1 := by rw [← hw1]; simp
  have n0 : w1.cell? ⟨w.heap.size, 0, none⟩ = some (.string ⟨#[45]⟩) := by rw [← hw1]; exact (Blk.new w #[.string ⟨#[45]⟩] 9).cell 0 rfl
  have hrn := rdNew_any F M inp out err w1 (h.below hb1)
  generalize hR : Wi.runs f F.line s inp = R at *
  obtain ⟨OUT, OK⟩ := R
  have HR := Lib.hid hR
  have H := Lib.hid h
  have HST := Lib.hid (fl.keep s w w1 (fun _ => False) hst (Kept.of_below hb1) (fun _ h => h.elim) fun _ h => h.elim)
  have HB1 := Lib.hid hb1
  have HOK := Lib.hid hok
  have HK := Lib.hid hK
  have HKL := Lib.hid hKl
  have HFL := Lib.hid fl
  have FIN : Hid (∀ (wr : World) (M' : Nat → Prop) (inp' out' err' : Bts), PrAt wr F M' inp' out' err' → out' = out ++ OUT → err' = (if OK then err else err ++ diagOf a0 [45] 18) → Kept (fun j => M j ∨ K j) w wr → (∀ j, M' j → M j ∨ w.heap.size ≤ j) → RunsPost F M K out err a0 (OUT, OK) w (.returned (.int .i64 (if OK then 0 else 1))) wr) := Lib.hid (fun wr M' inp' out' err' h1 h2 h3 h4 h5 => by
    subst h2; subst h3
    exact ⟨inp', M', rfl, h1, h4, h5⟩)
  have HSZ := Lib.hid hs1
  have HOLD : Hid (∀ j, (M j ∨ w.heap.size ≤ j) → F.w0.heap.size ≤ j) := Lib.hid (fun j hj => by
    rcases hj with hj | hj
    · exact h.fix.oldW j hj
    · have := h.n0; have := h.fix.oldN; omega)
  clear hR h hst hb1 hok hK hKl fl hs1
  go_enter Tryz.func78, Tryz.ntmps78
  go_wp2_with fail
  try rw [hw1]
  clear hw1
  go_loopw [7, 9, 10, 11, 12, 13, 14, 15, 16, 17, 24] (fun x7 _x9 _x10 _x11 _x12 _x13 _x14 _x15 _x16 _x17 i wr => (x7 = .int .i64 0 ∧ i = .int .i64 0 ∧ wr = w1) ∨ (i = .int .i64 1 ∧ ∃ st : Int, x7 = .int .i64 st ∧ Hid (RunsPost F M K out err a0 (OUT, OK) w (.returned (.int .i64 st)) wr))) (fun _ _ _ _ _ _ _ _ _ _ i _ => 1 - (intOf i).toNat)
  case atStart => exact .inl ⟨rfl, rfl, rfl⟩
  case round =>
    rcases hrel with ⟨rfl, rfl, rfl⟩ | ⟨rfl, st, rfl, hf⟩
    · go_wp2_with fail
      refine (openDash_any _ _).mono ?_
      rintro e wa ⟨rfl, rfl⟩
      go_wp2_with fail
      refine hrn.mono ?_
      rintro e w2 ⟨rfl, hr2, hb2⟩
      clear hrn
      have hrd : w.heap.size ≤ wa.heap.size := by have := HSZ.out; omega
      have hst0 : RunSt w w2 F M K f St okc wa.heap.size s M [] 0 false false inp out err (out ++ OUT) OK := by
        have e := HR.out
        refine ⟨hr2, HFL.out.keep s _ w2 (fun _ => False) HST.out (Kept.of_below hb2) (fun _ h => h.elim) (fun _ h => h.elim), by rw [List.nil_append, e]; exact ⟨rfl, rfl⟩, by simpa using HOK.out, (Kept.of_below HB1.out).trans (Kept.of_below hb2), fun j hj => .inl hj, hrd, by simpa using H.out.big, hbig⟩
      have HS0 := Lib.hid hst0
      have hrdne : ∀ j, K j → j ≠ wa.heap.size := fun j hj => by have := HKL.out j hj; have := HSZ.out; omega
      have HNE := Lib.hid hrdne
      generalize wa.heap.size = rd at *
      clear hr2 hb2 hst0 hrdne n0 HSZ
      go_wp2_with fail
      go_loopw [7, 13, 14, 15, 16, 17] (fun x7 _x13 _x14 _x15 _x16 _x17 wx => x7 = .int .i64 0 ∧ ∃ s1 M1 buf o feed over inp1 out1, Hid (RunSt w wx F M K f St okc rd s1 M1 buf o feed over inp1 out1 err (out ++ OUT) OK)) (fun _ _ _ _ _ _ wx => lenAt wx F.s0 0 + lenAt wx rd 2)
      case atStart => exact ⟨rfl, s, M, [], 0, false, false, inp, out, HS0⟩
      case round =>
        clear HS0
        obtain ⟨rfl, s1, M1, buf, o, feed, over, inp1, out1, HS1⟩ := hrel
        have hline := line_any F M1 rd buf o feed over inp1 out1 err wr HS1.out.r HS1.out.tot
        have htot := HS1.out.tot
        obtain ⟨T, hT⟩ : ∃ T, buf ++ inp1 = T := ⟨_, rfl⟩
        rw [hT] at hline htot
        have HT := Lib.hid hT
        have hmeas : lenAt wr F.s0 0 + lenAt wr rd 2 = T.length := by rw [HS1.out.r.lens.1, HS1.out.r.lens.2, ← hT]; simp; omega
        have HME := Lib.hid hmeas
        clear hT hmeas
        go_wp2_with fail
        refine hline.mono ?_
        rintro e w3 ⟨hmv, ⟨hlong, rfl, o3, feed3, over3, inp3, hr3⟩ | ⟨hfit, v3, he, hsl3, o3, over3, buf3, inp3, hr3, hrest⟩⟩
        · clear hline
          have hne : T ≠ [] := by rintro rfl; exact absurd hlong (by simp [Wi.lineOf])
          have heq := HS1.out.eq
          rw [HT.out, runs_step _ _ _ _ hne, if_pos hlong, List.append_nil] at heq
          obtain ⟨hO, hF⟩ := heq
          have hdl := diag_len a0 [45] 18
          have hsay := say_any F M1 inp3 out1 err a0 [45] rest 18 (by decide) w3 hr3.pr ha (by omega) (by decide) (by simp at hdl; omega)
          have HR3 := Lib.hid hr3
          have HMV := Lib.hid hmv
          have HO := Lib.hid hO
          have HF := Lib.hid hF
          clear hr3 hmv hne hlong hdl hO hF
          go_wp2_with fail
          refine hsay.mono ?_
          rintro x w4 ⟨⟨vx, rfl⟩, M4, hp4, hm4⟩
          have hfr := rdFree_any F M4 rd [] o3 feed3 over3 inp3 out1 (err ++ diagOf a0 [45] 18) w4 (HR3.out.pass hp4 hm4)
          have HM4 := Lib.hid hm4
          clear hsay hp4 hm4
          go_wp2_with fail
          refine hfr.mono ?_
          rintro x w5 ⟨⟨vy, rfl⟩, hr5, hm5⟩
          have HR5 := Lib.hid hr5
          have hall := (HMV.out.trans (HM4.out.rd rd)).trans hm5
          have hmv2 := HS1.out.mv (hall.1.mono fun _ _ h => .inl h) hall.2
          have HALL := Lib.hid hmv2
          clear hfr hr5 hm5 hall hmv2
          go_wp2_with fail
          refine (close0_any _ _).mono ?_
          rintro x w6 ⟨⟨vz, rfl⟩, rfl⟩
          go_wp2_with fail
          go_roundw
          case rel =>
            have hfin := FIN.out _ M4 inp3 out1 _ HR5.out.pr HO.out (by rw [← HF.out]; rfl) HALL.out.1 HALL.out.2
            rw [← HF.out] at hfin
            exact .inr ⟨rfl, 1, rfl, Lib.hid (by rw [← HF.out]; exact hfin)⟩
          case measure => simp [intOf]
        · by_cases hne : T = []
          · subst hne
            obtain ⟨p3, c3, rfl, -, -⟩ := hsl3.bs
            have heq := HS1.out.eq
            rw [HT.out, runs_nil, List.append_nil] at heq
            obtain ⟨hO, hF⟩ := heq
            change e = .returned (.tuple #[.slice p3 0 c3, .bool false, .int .i64 0]) at he
            subst he
            have hfr := rdFree_any F M1 rd buf3 o3 _ over3 inp3 out1 err w3 hr3.toRdrW
            have HMV := Lib.hid hmv
            have HO := Lib.hid hO
            have HF := Lib.hid hF
            clear hr3 hmv hO hF hline hsl3 hrest hfit
            go_wp2_with fail
            refine hfr.mono ?_
            rintro x w5 ⟨⟨vy, rfl⟩, hr5, hm5⟩
            have HR5 := Lib.hid hr5
            have hall := HMV.out.trans hm5
            have hmv2 := HS1.out.mv (hall.1.mono fun _ _ h => .inl h) hall.2
            have HALL := Lib.hid hmv2
            clear hfr hr5 hm5 hall hmv2
            go_wp2_with fail
            refine (close0_any _ _).mono ?_
            rintro x w6 ⟨⟨vz, rfl⟩, rfl⟩
            go_wp2_with fail
            go_roundw
            case rel =>
              have hfin := FIN.out _ M1 inp3 out1 _ HR5.out.pr HO.out (by rw [← HF.out]; rfl) HALL.out.1 HALL.out.2
              rw [← HF.out] at hfin
              exact .inr ⟨rfl, 0, rfl, Lib.hid (by rw [← HF.out]; exact hfin)⟩
            case measure => simp [intOf]
          · clear hline
            have hsome := line_some hne
            have hspec := (Wi.lineOf_spec T).1
            have hmem := line_mem T
            have heq := HS1.out.eq
            have hokT := HS1.out.ok
            rw [HT.out, runs_step _ _ _ _ hne, if_neg (by omega)] at heq
            rw [HT.out] at hokT
            have hrl := Wi.lineOf_rest T hne
            generalize Wi.lineOf T = LTR at *
            obtain ⟨LT, fd, rr⟩ := LTR
            dsimp only at hsome hspec hmem heq hrl hrest hr3 hsl3 he hfit
            rw [hsome] at he
            subst he
            obtain ⟨p3, c3, rfl, -, -⟩ := id hsl3.bs
            obtain ⟨vb, hrb, -⟩ := hr3.blk
            have hfeed := feed_any F rd vb o3 fd over3 w3 hrb
            have hKM : ∀ j, K j → F.n0 ≤ j ∧ ¬ M1 j ∧ j ≠ rd := fun j hj => by
              have h1 := HKL.out j hj
              have h2 := HK.out j hj
              refine ⟨h2.1, fun h3 => ?_, HNE.out j hj⟩
              rcases HS1.out.new j h3 with h4 | h4
              · exact h2.2 h4
              · omega
            have hst3 : St s1 w3 := HFL.out.keep s1 wr w3 _ HS1.out.st hmv.1 (fun j hj hKj => by
              rcases hj with hj | hj
              · exact (hKM j hKj).2.1 hj
              · exact (hKM j hKj).2.2 hj) (fun j hj => by
              rcases hj with hj | hj
              · exact HOLD.out j (HS1.out.new j hj)
              · exact HOLD.out j (.inr (by rw [hj]; exact hrd)))
            have hlen3 : LT.length + (Wi.feedOf fd).length + rr.length = T.length := by
              have := congrArg List.length hspec
              simp at this; omega
            have hlo := congrArg List.length heq.1
            simp only [List.length_append] at hlo
            have hbg := HS1.out.big
            simp only [List.length_append] at hbg
            have hl1 : (f s1 LT).2.length + (Wi.feedOf fd).length ≤ 4294967296 := by omega
            have hl2 : out1.length + ((f s1 LT).2.length + (Wi.feedOf fd).length) ≤ 4294967296 := by omega
            have hwk := hmv.1.size
            have hKw : ∀ j, K j → j < wr.heap.size := HFL.out.lt s1 wr HS1.out.st
            have HSL := Lib.hid (SlE.of hsl3 |>.mono (M := fun g => ¬ K g) fun g _ hg hKg => by
              have := hKw g hKg; omega)
            have HR3 := Lib.hid hr3
            have HMV := Lib.hid hmv
            have HKM := Lib.hid hKM
            have HST3 := Lib.hid hst3
            have HOKT := Lib.hid hokT
            have HEQ := Lib.hid heq
            have HRE := Lib.hid hrest
            have HLS := Lib.hid (And.intro hlen3 (And.intro hrl (And.intro htot (And.intro hl1 (And.intro hl2 hmem)))))
            clear hsome hspec hmem heq hokT hrl hrest hr3 hsl3 hfit hrb hmv hKM hst3 hlen3 hlo hbg hl1 hl2 hwk hKw
            go_wp2_with fail
            refine hfeed.mono ?_
            rintro e w4 ⟨rfl, rfl⟩
            clear hfeed
            obtain ⟨wa, hwa⟩ : ∃ wa, w4.alloc (.cells #[.int .u8 10] 5) = wa := ⟨_, rfl⟩
            have hba : Below w4.heap.size w4 wa := by rw [← hwa]; exact (Below.refl _ _).alloc (Nat.le_refl _) _
            have hna : SlE wa (fun g => w4.heap.size ≤ g) (.slice (some ⟨w4.heap.size, 0, none⟩) 1 1) [10] := .inr ⟨by simp, .inr ⟨w4.heap.size, 0, 1, rfl, Nat.le_refl _, by rw [← hwa]; simp, Nat.le_refl _, fun i hi => by
              obtain rfl : i = 0 := by simp at hi; omega
              rw [← hwa]
              exact (Blk.new w4 #[.int .u8 10] 5).cell 0 rfl⟩⟩
            have HBA := Lib.hid hba
            have HNA := Lib.hid hna
            clear hba hna
            go_upto_if 62 with fail
            go_cut [16, 62] (fun x16 _ wx => Below w4.heap.size w4 wx ∧ Hid (SlE wx (fun g => w4.heap.size ≤ g) x16 (Wi.feedOf fd)))
            case first =>
              cases fd with
              | true =>
                go_wp2_with fail
                try rw [hwa]
                go_meet
                exact ⟨HBA.out, HNA⟩
              | false =>
                go_wp2_with fail
                go_meet
                exact ⟨Below.refl _ _, Lib.hid (.inl ⟨rfl, _, _, rfl⟩)⟩
            clear hwa HBA HNA
            obtain ⟨hbc, hend⟩ := hcut
            obtain ⟨pe, ce, rfl, -⟩ := id hend.out.bs
            have hcall := HFL.out.call s1 wc _ LT (HFL.out.keep s1 w4 wc (fun _ => False) HST3.out (Kept.of_below hbc) (fun _ h => h.elim) fun _ h => h.elim) (HSL.out.below hbc) (fun c hc => HOKT.out c (HLS.out.2.2.2.2.2.1 c hc)) (by have := HLS.out; omega) (by have := HLS.out; omega)
            have HBC := Lib.hid hbc
            clear hbc
            go_wp2_with fail
            refine hcall.mono ?_
            rintro e w5 ⟨v5, rfl, hs5, hst5, hk5⟩
            clear hcall
            obtain ⟨p5, c5, rfl, -⟩ := id hs5.bs
            obtain ⟨w6, hw6⟩ : ∃ w6, w5.alloc (.cells #[.slice p5 (f s1 LT).2.length c5, .slice pe (Wi.feedOf fd).length ce] 22) = w6 := ⟨_, rfl⟩
            have hb6 : Below w5.heap.size w5 w6 := by rw [← hw6]; exact (Below.refl _ _).alloc (Nat.le_refl _) _
            have hs6 : w6.heap.size = w5.heap.size + 1 := by rw [← hw6]; simp
            have c60 : w6.cell? ⟨w5.heap.size, 0, none⟩ = some (.slice p5 (f s1 LT).2.length c5) := by rw [← hw6]; exact (Blk.new w5 _ _).cell 0 rfl
            have c61 : w6.cell? ⟨w5.heap.size, 0 + 1, none⟩ = some (.slice pe (Wi.feedOf fd).length ce) := by rw [← hw6]; exact (Blk.new w5 _ _).cell 1 rfl
            have hend5 : SlE w5 (fun g => w4.heap.size ≤ g) (.slice pe (Wi.feedOf fd).length ce) (Wi.feedOf fd) := hend.out.kept hk5 fun g hg hN hKg => by
              have h1 := HFL.out.lt s1 w4 HST3.out g hKg
              omega
            have hjn := join2_any w5.heap.size 0 2 (Nat.le_refl _) _ _ _ _ _ _ w6 c60 c61 (hs5.below hb6) (hend5.below hb6) (by have := HLS.out; omega)
            have HS5 := Lib.hid hs5
            have HST5 := Lib.hid hst5
            have HK5 := Lib.hid hk5
            have HB6 := Lib.hid hb6
            have HS6 := Lib.hid hs6
            clear hs5 hst5 hk5 hb6 hs6 c60 c61 hend5 hend
            go_wp2_with fail
            try rw [hw6]
            refine hjn.mono ?_
            rintro e w7 ⟨v7, rfl, hs7, hb7⟩
            clear hjn hw6
            have hsz : w4.heap.size ≤ wc.heap.size ∧ wc.heap.size ≤ w5.heap.size ∧ w5.heap.size ≤ w6.heap.size ∧ w6.heap.size ≤ w7.heap.size := ⟨HBC.out.size, HK5.out.size, HB6.out.size, hb7.size⟩
            have hrdc := HR3.out.toRdrW.below HBC.out
            have hrd5 := hrdc.keptK HK5.out (fun j hj => HKM.out j hj) (HFL.out.noByte s1 wc (HFL.out.keep s1 w4 wc (fun _ => False) HST3.out (Kept.of_below HBC.out) (fun _ h => h.elim) fun _ h => h.elim))
            have hrd7 := (hrd5.below HB6.out).below hb7
            obtain ⟨XS, hXS⟩ : ∃ XS, (f s1 LT).2 ++ Wi.feedOf fd = XS := ⟨_, rfl⟩
            rw [hXS] at hs7
            have hXL : XS.length = (f s1 LT).2.length + (Wi.feedOf fd).length := by rw [← hXS, List.length_append]
            have hwr := wrE_any1 F M1 inp3 out1 err XS _ w7 hrd7.pr (hs7.mono fun g _ hg hM => by
              have := HR3.out.pr.lt g hM
              omega) (by have := HLS.out; omega)
            have HXS := Lib.hid hXS
            clear hXS hXL
            obtain ⟨p7, c7, rfl, -⟩ := id hs7.bs
            have HSZ := Lib.hid hsz
            have HRD7 := Lib.hid hrd7
            have HB7 := Lib.hid hb7
            clear hsz hrdc hrd5 hrd7 hs7 hb7
            go_wp2_with fail
            refine hwr.mono ?_
            rintro e w8 ⟨rfl, M8, hp8, hm8⟩
            clear hwr
            have HP8 := Lib.hid hp8
            have HM8 := Lib.hid hm8
            clear hp8 hm8
            go_wp2_with fail
            have hk47 : Kept K w4 w8 → True := fun _ => trivial
            have hrd8 := HRD7.out.pass HP8.out HM8.out
            have hM1n : ∀ j, M1 j → j < w4.heap.size := HR3.out.pr.lt
            have hall : Kept (fun j => (M1 j ∨ j = rd) ∨ K j) wr w8 := ((HMV.out.1.mono fun _ _ h => Or.inl h).trans (((Kept.of_below HBC.out).trans (HK5.out.mono fun _ _ h => Or.inr h)).trans (((Kept.of_below HB6.out).trans (Kept.of_below HB7.out)).trans (HM8.out.kept.mono fun _ _ h => .inl (.inl h)))))
            have hmv2 := HS1.out.mv hall (fun j hj => by
              rcases HM8.out.new j hj with h1 | h1
              · exact .inl h1
              · have := HSZ.out; have := HMV.out.1.size; exact .inr (by omega))
            have hnx : RunSt w w8 F M K f St okc rd (f s1 LT).1 M8 buf3 o3 fd over3 inp3 (out1 ++ XS) err (out ++ OUT) OK := by
              refine ⟨⟨hrd8, HR3.out.over_⟩, ?_, ?_, ?_, hmv2.1, hmv2.2, hrd, ?_, HS1.out.big⟩
              · refine HFL.out.keep _ w5 w8 M1 HST5.out (((Kept.of_below HB6.out).trans (Kept.of_below HB7.out)).trans HM8.out.kept) (fun j hj hKj => (HKM.out j hKj).2.1 hj) fun j hj => HOLD.out j (HS1.out.new j hj)
              · rw [HRE.out]
                obtain ⟨e1, e2⟩ := HEQ.out
                exact ⟨by rw [← e1, ← HXS.out]; simp [List.append_assoc], e2⟩
              · rw [HRE.out]; exact fun c hc => HOKT.out c (HLS.out.2.2.2.2.2.2 c hc)
              · rw [HRE.out]; have := HLS.out; omega
            have HNX := Lib.hid hnx
            have hms : lenAt w8 F.s0 0 + lenAt w8 rd 2 < lenAt wr F.s0 0 + lenAt wr rd 2 := by
              rw [HME.out, hrd8.lens.1, hrd8.lens.2]
              have h1 := congrArg List.length HRE.out
              have := HLS.out
              simp at h1
              omega
            have HMS := Lib.hid hms
            clear hnx hms hall hmv2 hrd8 hM1n hk47
            go_roundw
            case rel => exact ⟨rfl, _, _, _, _, _, _, _, _, HNX⟩
            case measure => exact HMS.out
    · go_wp2_with fail
      go_ret
      exact hf.out

end Go.Proofs.YtbpcfjoebfbjmaaGreatDoor

/-
  What opt.Parse, Has and Last compute, as plain functions. No program in sight. No condition: definitions alone.
-/
namespace Go.Proofs.YtbpcfjoebfbjmaaGreatDoor.Op

abbrev Bytes := List UInt8

/-- The kinds of a spec's letters: 0 none, 1 alone, 2 with an argument. -/
def letF : Bytes → (UInt8 → Nat) → (UInt8 → Nat)
  | [], f => f
  | c :: r, f => letF r (if c = 58 ∨ c = 45 ∨ f c ≠ 0 then f else fun x => if x = c then (if r.head? = some 58 then 2 else 1) else f x)
def kinds (spec : Bytes) : UInt8 → Nat := letF spec fun _ => 0

/-- The letters of one argument, the arguments behind it. -/
def wordF (kf : UInt8 → Nat) : Bytes → List Bytes → Option (List (UInt8 × Bytes) × List Bytes)
  | [], r => some ([], r)
  | c :: t, r =>
    if kf c = 0 then none
    else if kf c = 1 then
      match wordF kf t r with
      | none => none
      | some (l, r') => some ((c, []) :: l, r')
    else if t ≠ [] then some ([(c, t)], r)
    else match r with
      | [] => none
      | x :: r' => some ([(c, x)], r')

def parseF (kf : UInt8 → Nat) : Nat → List Bytes → Option (List (UInt8 × Bytes) × List Bytes)
  | 0, l => some ([], l)
  | _ + 1, [] => some ([], [])
  | k + 1, a :: r =>
    if a.length < 2 ∨ a.head? ≠ some 45 then some ([], a :: r)
    else if a = [45, 45] then some ([], r)
    else match wordF kf (a.drop 1) r with
      | none => none
      | some (l, r') =>
        match parseF kf k r' with
        | none => none
        | some (l', o) => some (l ++ l', o)
def parse (spec : Bytes) (args : List Bytes) : Option (List (UInt8 × Bytes) × List Bytes) := parseF (kinds spec) args.length args

def has (l : List (UInt8 × Bytes)) (c : UInt8) : Bool := l.any fun o => o.1 == c
/-- The argument of the last one of a letter. -/
def last : List (UInt8 × Bytes) → UInt8 → Option Bytes
  | [], _ => none
  | o :: r, c => match last r c with
    | some x => some x
    | none => if o.1 = c then some o.2 else none

theorem wordF_len (kf : UInt8 → Nat) : ∀ (a : Bytes) (r : List Bytes) (l : List (UInt8 × Bytes)) (r' : List Bytes), wordF kf a r = some (l, r') → r'.length ≤ r.length := by
  intro a
  induction a with
  | nil =>
    intro r l r' h
    simp only [wordF, Option.some.injEq, Prod.mk.injEq] at h
    obtain ⟨-, rfl⟩ := h
    exact Nat.le_refl _
  | cons c t ih =>
    intro r l r' h
    unfold wordF at h
    split at h
    · cases h
    split at h
    · split at h
      · cases h
      · rename_i l2 r2 h2
        have := ih r l2 r2 h2
        simp only [Option.some.injEq, Prod.mk.injEq] at h
        obtain ⟨-, rfl⟩ := h
        exact this
    split at h
    · simp only [Option.some.injEq, Prod.mk.injEq] at h
      obtain ⟨-, rfl⟩ := h
      exact Nat.le_refl _
    · cases r with
      | nil => cases h
      | cons x r3 =>
        simp only [Option.some.injEq, Prod.mk.injEq] at h
        obtain ⟨-, rfl⟩ := h
        simp

theorem parse_fuel (kf : UInt8 → Nat) : ∀ (k m : Nat) (args : List Bytes), args.length ≤ k → args.length ≤ m → parseF kf k args = parseF kf m args := by
  intro k
  induction k with
  | zero =>
    intro m args h _
    have : args = [] := List.eq_nil_of_length_eq_zero (by omega)
    subst this
    cases m <;> rfl
  | succ k ih =>
    intro m args h1 h2
    cases args with
    | nil => cases m <;> rfl
    | cons a r =>
      cases m with
      | zero => simp at h2
      | succ m =>
        simp only [List.length_cons] at h1 h2
        unfold parseF
        split
        · rfl
        split
        · rfl
        cases hw : wordF kf (a.drop 1) r with
        | none => rfl
        | some x =>
          obtain ⟨l, r'⟩ := x
          have := wordF_len kf _ _ _ _ hw
          simp only
          rw [ih m r' (by omega) (by omega)]

end Go.Proofs.YtbpcfjoebfbjmaaGreatDoor.Op

/-
  The walk of opt.letters. Condition: the spec is short.
-/
namespace Go.Proofs.YtbpcfjoebfbjmaaGreatDoor
open Go.RowKit Go.Shelf Go.Maps

/-- How the map of kinds reads. -/
def KMap (D : DataW Unit) (f : UInt8 → Nat) : Prop := ∀ (c : UInt8) z, D.atKey (.int .u8 c.toNat) z = if f c = 0 then z else .lit (.int .i64 (f c))

theorem kU8 : Keyed Tryz.prog 5 := Maps.int_keyed Tryz.underlying5
theorem key_u8 (c : UInt8) : keyOf Tryz.prog 5 (.int .u8 c.toNat) = some (.int .u8 c.toNat) := keyOf_int_mk Tryz.underlying5 (WalkArith.wf_u8 (by have := c.toNat_lt; omega))
theorem keyLit_u8 (n : Int) : WideAt.IsKeyLit (.int .u8 n) := by unfold WideAt.IsKeyLit; trivial
theorem KMap.nil : KMap (.map []) (fun _ => 0) := fun c z => by simp [DataW.atKey]
theorem KMap.put {D : DataW Unit} {f : UInt8 → Nat} (h : KMap D f) (hD : IsMap D) (c : UInt8) (n : Nat) (hn : n ≠ 0) : KMap (D.put (.int .u8 c.toNat) (.lit (.int .i64 n))) (fun x => if x = c then n else f x) := by
  intro x z
  by_cases hx : x = c
  · subst hx
    rw [atKey_put_same hD (keyLit_u8 _)]
    simp [hn]
  · rw [atKey_put_other (fun e => hx (by injection e with _ e; exact UInt8.toNat_inj.1 (by omega))), h x z]
    simp [hx]
theorem KMap.has {D : DataW Unit} {f : UInt8 → Nat} (h : KMap D f) (c : UInt8) : Maps.has D (.int .u8 c.toNat) = !(f c == 0) := by
  by_cases hf : f c = 0
  · rw [has_false_of_atKey (fun z => by rw [h c z, if_pos hf])]; simp [hf]
  · rw [has_true_of_atKey (fun z => by rw [h c z, if_neg hf])]; simp [hf]
theorem grown_below' {b B : Nat} {w w' : World} (h : w.grownBy w' (some b)) (hb : B ≤ b) (hw : B ≤ w.heap.size) : Below B w w' :=
  ⟨h.os, h.tape, h.output, h.size, fun k hk => h.block k (by omega) (by simp; omega)⟩
/-- A look-up with its answer whether it is there. -/
theorem look2 {W : World} {m n : Nat} {D : DataW Unit} {f : UInt8 → Nat} (ho : W.ownsMap Tryz.prog 5 (plainElem (H := Unit) Tryz.prog 3) m n D) (hk : KMap D f) (c : UInt8) :
    (Instr.lookup 224 (.map (some m)) (.int .u8 c.toNat) true).run Tryz.prog W = .ok (.tuple #[.int .i64 (f c), .bool (!(f c == 0))]) W := by
  obtain ⟨v, ps, hrun, hv⟩ := ho.look_ok kU8 (t := 224) Tryz.underlying224 (z := .int .i64 0) (by kernel_rfl) (zd := .lit (.int .i64 0)) (zp := []) (plainElem_int Tryz.underlying3 (by decide)) (key_u8 c)
  obtain ⟨x, rfl, hx, -⟩ := plainElem_int_inv Tryz.underlying3 hv
  rw [hk c] at hx
  rw [hrun, hk.has c]
  by_cases hf : f c = 0
  · rw [if_pos hf] at hx
    simp only [Prod.mk.injEq, DataW.lit.injEq, Lit.int.injEq, true_and] at hx
    rw [← hx.1, hf]; rfl
  · rw [if_neg hf] at hx
    simp only [Prod.mk.injEq, DataW.lit.injEq, Lit.int.injEq, true_and] at hx
    rw [← hx.1]
/-- A look-up without it. -/
theorem look1 {W : World} {m n : Nat} {D : DataW Unit} {f : UInt8 → Nat} (ho : W.ownsMap Tryz.prog 5 (plainElem (H := Unit) Tryz.prog 3) m n D) (hk : KMap D f) (c : UInt8) :
    (Instr.lookup 224 (.map (some m)) (.int .u8 c.toNat) false).run Tryz.prog W = .ok (.int .i64 (f c)) W := by
  obtain ⟨x, hrun, hx, -⟩ := ho.lookup_int kU8 (t := 224) Tryz.underlying224 Tryz.underlying3 (by kernel_rfl) (key_u8 c)
  rw [hk c] at hx
  rw [hrun]
  by_cases hf : f c = 0
  · rw [if_pos hf] at hx
    simp only [DataW.lit.injEq, Lit.int.injEq, true_and] at hx
    rw [← hx, hf]; rfl
  · rw [if_neg hf] at hx
    simp only [DataW.lit.injEq, Lit.int.injEq, true_and] at hx
    rw [← hx]

set_option maxRecDepth 100000 in
set_option maxHeartbeats 4000000 in
theorem letters_any (spec : Bts) (hs : spec.length ≤ 1000) (w : World) :
    Calls Tryz.prog 115 #[.string ⟨spec.toArray⟩] w fun e w' => ∃ m n D, e = .returned (.map (some m)) ∧ w.heap.size ≤ m ∧ w'.ownsMap Tryz.prog 5 (plainElem (H := Unit) Tryz.prog 3) m n D ∧ KMap D (Op.kinds spec) ∧ Below w.heap.size w w' := by
  have hmm := @run_makeMap Tryz.prog
  have o0 := Lib.hid (World.ownsMap_made w Tryz.prog 5 (plainElem (H := Unit) Tryz.prog 3))
  have b0 := Lib.hid ((Below.refl w.heap.size w).alloc (Nat.le_refl _) (.map #[] 0))
  have hsz : (⟨spec.toArray⟩ : ByteArray).size = spec.length := rfl
  go_enter Tryz.func115, Tryz.ntmps115
  go_wp2_with fail
  go_loopw [4, 5, 6, 7, 11] (fun _x4 _x5 _x6 _x7 i wr => ∃ (k n : Nat) (D : DataW Unit) (f : UInt8 → Nat), k ≤ spec.length ∧ n ≤ 2 * k ∧ i = .int .i64 k ∧ Hid (wr.ownsMap Tryz.prog 5 (plainElem (H := Unit) Tryz.prog 3) w.heap.size n D) ∧ Hid (KMap D f) ∧ Hid (Op.letF (spec.drop k) f = Op.kinds spec) ∧ Hid (Below w.heap.size w wr)) (fun _ _ _ _ i _ => spec.length - (intOf i).toNat)
  case atStart => exact ⟨0, 0, .map [], fun _ => 0, Nat.zero_le _, Nat.le_refl _, rfl, o0, Lib.hid KMap.nil, Lib.hid rfl, b0⟩
  case round =>
    obtain ⟨k, n, D, f, hk, hn, rfl, ho, hm, hl, hb⟩ := hrel
    by_cases hlt : k < spec.length
    · obtain ⟨c, hdrop, hbg⟩ := byte_at hlt
      have hL := look2 ho.out hm.out c
      have HD := Lib.hid hdrop
      clear hdrop
      have hstep : Op.letF (spec.drop k) f = Op.letF (spec.drop (k + 1)) (if c = 58 ∨ c = 45 ∨ f c ≠ 0 then f else fun x => if x = c then (if (spec.drop (k + 1)).head? = some 58 then 2 else 1) else f x) := by
        rw [HD.out, Op.letF]
      have HST := Lib.hid hstep
      clear hstep
      by_cases hsk : c = 58 ∨ c = 45 ∨ f c ≠ 0
      · have hfin : Op.letF (spec.drop (k + 1)) f = Op.kinds spec := by have := HST.out; rw [if_pos hsk, hl.out] at this; exact this.symm
        have HF := Lib.hid hfin
        clear hfin HST
        by_cases h1 : c = 58
        · have e1 : ((c.toNat : Int) == 58) = true := by rw [h1]; rfl
          clear hsk h1
          go_wp2_with fail
          go_roundw
          case rel => exact ⟨k + 1, n, D, f, by omega, by omega, by go_num, ho, hm, HF, hb⟩
          case measure => simp [intOf]; omega
        · by_cases h2 : c = 45
          · have e1 : ((c.toNat : Int) == 58) = false := by simpa using u8_lit (n := 58) h1 (by decide)
            have e2 : ((c.toNat : Int) == 45) = true := by rw [h2]; rfl
            clear hsk h1 h2
            go_wp2_with fail
            go_roundw
            case rel => exact ⟨k + 1, n, D, f, by omega, by omega, by go_num, ho, hm, HF, hb⟩
            case measure => simp [intOf]; omega
          · have hf : (f c == 0) = false := by
              rcases hsk with h | h | h
              · exact absurd h h1
              · exact absurd h h2
              · simpa using h
            have e1 : ((c.toNat : Int) == 58) = false := by simpa using u8_lit (n := 58) h1 (by decide)
            have e2 : ((c.toNat : Int) == 45) = false := by simpa using u8_lit (n := 45) h2 (by decide)
            rw [hf] at hL
            change _ = Result.ok (Value.tuple #[.int .i64 (f c), .bool true]) wr at hL
            clear hsk h1 h2 hf
            go_wp2_with fail
            go_roundw
            case rel => exact ⟨k + 1, n, D, f, by omega, by omega, by go_num, ho, hm, HF, hb⟩
            case measure => simp [intOf]; omega
      · have h1 : c ≠ 58 := fun h => hsk (.inl h)
        have h2 : c ≠ 45 := fun h => hsk (.inr (.inl h))
        have h3 : f c = 0 := Decidable.not_not.1 fun h => hsk (.inr (.inr h))
        have hst2 := HST.out
        rw [if_neg hsk, hl.out] at hst2
        have HST2 := Lib.hid hst2
        have e1 : ((c.toNat : Int) == 58) = false := by simpa using u8_lit (n := 58) h1 (by decide)
        have e2 : ((c.toNat : Int) == 45) = false := by simpa using u8_lit (n := 45) h2 (by decide)
        have hf : (f c == 0) = true := by simpa using h3
        rw [hf, h3] at hL
        change _ = Result.ok (Value.tuple #[.int .i64 0, .bool false]) wr at hL
        obtain ⟨w1, hu1, ho1, hg1⟩ := ho.out.update kU8 (t := 224) Tryz.underlying224 (show n < maxLen by unfold maxLen; omega) (val := .int .i64 1) (key_u8 c) (plainElem_int Tryz.underlying3 (by decide))
        have hm1 := hm.out.put ho.out.isMap c 1 (by decide)
        have hb1 := hb.out.trans (grown_below' hg1 (Nat.le_refl _) hb.out.size)
        have HO1 := Lib.hid ho1
        have HM1 := Lib.hid hm1
        have HB1 := Lib.hid hb1
        clear ho1 hm1 hb1 hg1 hst2 HST hsk h1 h2 h3 hf
        by_cases hlt2 : k + 1 < spec.length
        · obtain ⟨d, hdrop2, hbg2⟩ := byte_at hlt2
          have hhead : (spec.drop (k + 1)).head? = some d := by rw [hdrop2]; rfl
          have hc1 : decide (((k : Int) + 1) < spec.length) = true := by simp; omega
          by_cases hd : d = 58
          · subst hd
            obtain ⟨w2, hu2, ho2, hg2⟩ := HO1.out.update kU8 (t := 224) Tryz.underlying224 (show n + 1 < maxLen by unfold maxLen; omega) (val := .int .i64 2) (key_u8 c) (plainElem_int Tryz.underlying3 (by decide))
            have hm2 := HM1.out.put HO1.out.isMap c 2 (by decide)
            have hb2 := HB1.out.trans (grown_below' hg2 (Nat.le_refl _) HB1.out.size)
            have hfin : Op.letF (spec.drop (k + 1)) (fun x => if x = c then 2 else if x = c then 1 else f x) = Op.kinds spec := by
              rw [HST2.out]
              congr 1
              funext x
              rw [hhead, if_pos rfl]
              by_cases hx : x = c
              · simp [hx]
              · simp [hx]
            have HF := Lib.hid hfin
            have HO2 := Lib.hid ho2
            have HM2 := Lib.hid hm2
            have HB2 := Lib.hid hb2
            clear hfin ho2 hm2 hb2 hg2 hhead hdrop2 HST2
            go_wp2_with fail
            go_roundw
            case rel => exact ⟨k + 1, n + 1 + 1, _, _, by omega, by omega, by go_num, HO2, HM2, HF, HB2⟩
            case measure => simp [intOf]; omega
          · have ed : ((d.toNat : Int) == 58) = false := by simpa using u8_lit (n := 58) hd (by decide)
            have hfin : Op.letF (spec.drop (k + 1)) (fun x => if x = c then 1 else f x) = Op.kinds spec := by
              rw [HST2.out]
              congr 1
              funext x
              rw [hhead]
              have hd' : ¬ (some d = some (58 : UInt8)) := by simpa using hd
              by_cases hx : x = c
              · simp [hx, hd']
              · simp [hx]
            have HF := Lib.hid hfin
            clear hfin hhead hdrop2 HST2 hd
            go_wp2_with fail
            go_roundw
            case rel => exact ⟨k + 1, n + 1, _, _, by omega, by omega, by go_num, HO1, HM1, HF, HB1⟩
            case measure => simp [intOf]; omega
        · have hhead : (spec.drop (k + 1)).head? = none := by rw [List.drop_of_length_le (by omega)]; rfl
          have hc1 : decide (((k : Int) + 1) < spec.length) = false := by simp; omega
          have hfin : Op.letF (spec.drop (k + 1)) (fun x => if x = c then 1 else f x) = Op.kinds spec := by
            rw [HST2.out]
            congr 1
            funext x
            rw [hhead]
            by_cases hx : x = c
            · simp [hx]
            · simp [hx]
          have HF := Lib.hid hfin
          clear hfin hhead HST2
          go_wp2_with fail
          go_roundw
          case rel => exact ⟨k + 1, n + 1, _, _, by omega, by omega, by go_num, HO1, HM1, HF, HB1⟩
          case measure => simp [intOf]; omega
    · obtain rfl : k = spec.length := by omega
      have hfin : Op.kinds spec = f := by have := hl.out; rw [List.drop_of_length_le (Nat.le_refl _), Op.letF] at this; exact this.symm
      have HM : Hid (KMap D (Op.kinds spec)) := by rw [hfin]; exact hm
      clear hfin
      go_wp2_with fail
      go_ret
      exact ⟨_, n, D, rfl, Nat.le_refl _, ho.out, HM.out, hb.out⟩

end Go.Proofs.YtbpcfjoebfbjmaaGreatDoor

/-
  The walks of proc.Go, of attempt and its deferred closure. Condition on main: what it comes to.
-/
namespace Go.Proofs.YtbpcfjoebfbjmaaGreatDoor
open Go.RowKit Go.Shelf Go.Maps

/-- A machine. -/
def MachAt (W : World) (mb p g : Nat) (done : Bool) (st : Int) : Prop := Blk W mb #[.pointer (some ⟨p, 0, none⟩), .func (.func g) #[] #[], .bool done, .int .i64 st] 108

set_option maxRecDepth 100000 in
set_option maxHeartbeats 4000000 in
theorem go_any (F : Fx) (M : Nat → Prop) (inp out err : Bts) (g : Nat) (w : World) (h : PrAt w F M inp out err) :
    Calls Tryz.prog 47 #[.pointer (some ⟨F.p, 0, none⟩), .func (.func g) #[] #[]] w fun e w' => e = .returned (.pointer (some ⟨w.heap.size, 0, none⟩)) ∧ MachAt w' w.heap.size F.p g false 0 ∧ Below w.heap.size w w' := by
  obtain ⟨hd, pk, st, hp⟩ := h.proc
  have c13 := new_cell (hp.cell 13 (v := .bool true) rfl) (.cells #[.pointer (some ⟨F.p, 0, none⟩), .func (.func g) #[] #[], .bool false, .int .i64 0] 108)
  clear h hp
  go_enter Tryz.func47, Tryz.ntmps47
  go_wp2_with fail
  go_ret
  exact ⟨rfl, Blk.new _ _ _, (Below.refl _ _).alloc (Nat.le_refl _) _⟩

theorem attempt_idle (p q : Addr) (w : World) :
    CallsD Tryz.prog 108 #[.pointer (some p), .pointer (some q)] .returning w fun e u' w' => e = .returned (.tuple #[]) ∧ u' = .returning ∧ w' = w := by
  refine callsD_of_wpS Tryz.func108 rfl fun c₀ cs hu => ?_
  apply wpS_seq
  apply wpS_region
  simp [wpOpsS, go_sem, recoverD, hu, Tryz.ntmps108, Exit.thenS]
  refine wpS_of_wp ?_
  change Code.wp _ _ _ { tmps := #[.pointer (some p), .pointer (some q), undef, undef, undef, undef, .nilIface, undef, undef, undef, undef, undef, undef, undef, undef, undef, undef, undef], defers := [] } _
  go_wp2_with fail
  cases c₀
  simp_all [bodyPostS, results, Tryz.results108]

end Go.Proofs.YtbpcfjoebfbjmaaGreatDoor
