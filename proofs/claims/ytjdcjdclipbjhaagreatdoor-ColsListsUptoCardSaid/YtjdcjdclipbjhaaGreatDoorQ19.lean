/-
  Texts of this seat put together: C10, C11, C12, C13.
-/
import Derived.Test.YtjdcjdclipbjhaaGreatDoorQ18
import Derived.Test.YtjdcjdclipbjhaaGreatDoorQ16
import Derived.Laws.IdiomCopy
import Derived.Laws.IdiomStrings

/-
  The walk of cut, at its own input. Conditions: its options are read, no operands; a cutter that answers (CutOk); lines that fit.
-/
namespace Go.Proofs.YtjdcjdclipbjhaaGreatDoor
open Go.RowKit Go.Shelf Go.Maps

/-- What cut tells. -/
def cutF (f : Bts → Bts) : Nat → Bts → Bts
  | 0, _ => []
  | k + 1, tot => if tot = [] then [] else f (Wi.lineOf tot).1 ++ [10] ++ cutF f k (Wi.lineOf tot).2.2
def allL (P : Bts → Prop) : Nat → Bts → Prop
  | 0, _ => True
  | k + 1, tot => tot = [] ∨ (P (Wi.lineOf tot).1 ∧ allL P k (Wi.lineOf tot).2.2)
/-- What a utility of this package hands back. -/
def MainC (F : Fx) (M : Nat → Prop) (out : Bts) (w : World) (e : Ending) (w' : World) : Prop :=
  ∃ inp' M', e = .returned (.int .i64 0) ∧ PrAt w' F M' inp' out [] ∧ Mv M M' w w'
def CutOk (fl : Bool) (d : Option UInt8) (l : List Co.Spn) (f : Bts → Bts) (P : Bts → Prop) : Prop :=
  ∀ (q : Option Addr) (cap : Nat) (w : World) (v : Value) (N : Nat → Prop) (bs : Bts), SpansAt w q l → Glo w → Sl w N v bs → (∀ q n c, v = .slice q n c → c ≤ maxLen) → P bs → bs.length ≤ 1073741824 →
    Calls Tryz.prog 97 #[.agg #[.slice q l.length cap, .bool fl, .int .u8 (sepV d), .bool false], v] w fun e w' => CutPost (f bs) w e w'

theorem SpansAt.kept {S : Nat → Prop} {w w' : World} {p : Option Addr} {l : List Co.Spn} (h : SpansAt w p l) (hk : Kept S w w') (hS : ∀ a, p = some a → ¬ S a.block) : SpansAt w' p l := fun h0 => by
  obtain ⟨b, o, e, hlt, hc⟩ := h h0
  have hb := hk.block b hlt (hS _ e)
  exact ⟨b, o, e, Nat.lt_of_lt_of_le hlt hk.size, fun i hi => ⟨(World.cell?_of_block hb).trans (hc i hi).1, (World.cell?_of_block hb).trans (hc i hi).2⟩⟩

/-- Where the lines stand. -/
structure CutSt (wB wr : World) (F : Fx) (M : Nat → Prop) (f : Bts → Bts) (P : Bts → Prop) (rd k : Nat) (M1 : Nat → Prop) (buf : Bts) (o : Nat) (feed over : Bool) (inp1 out1 OUT : Bts) : Prop where
  r : Rdr wr F M1 rd buf o feed over inp1 out1 []
  eq : out1 ++ cutF f k (buf ++ inp1) = OUT
  fuel : (buf ++ inp1).length ≤ k
  all : allL P k (buf ++ inp1)
  mv : MvR M M1 rd wB wr
  lim : (buf ++ inp1).length ≤ F.line
  tot : (buf ++ inp1).length ≤ 1000000
  big : OUT.length ≤ 4294967296

set_option maxRecDepth 100000 in
set_option maxHeartbeats 8000000 in
theorem cut_any (F : Fx) (M : Nat → Prop) (inp a0 : Bts) (rest : List Bts) (ha : F.args = a0 :: rest) (hrest : rest ≠ []) (htot : totL rest ≤ 1000000) (L : List OptA) (hp : Op.parse [98, 58, 99, 58, 102, 58, 100, 58, 110, 115] rest = some (L, [])) (hLN : L.length ≤ 1000000)
    (fl : Bool) (d : Option UInt8) (l : List Co.Spn) (hA : AskC L fl d l) (f : Bts → Bts) (P : Bts → Prop) (hC : CutOk fl d l f P) (hlen : ∀ bs, (f bs).length ≤ bs.length) (hall : allL P inp.length inp) (hin : inp.length ≤ F.line) (hin2 : inp.length ≤ 1000000) (hg : Glo F.w0) (hbig : (cutF f inp.length inp).length ≤ 4294967296) (w : World) (h : PrAt w F M inp [] []) :
    Calls Tryz.prog 55 #[.pointer (some ⟨F.p, 0, none⟩)] w fun e w' => MainC F M (cutF f inp.length inp) w e w' := by
  have hargs := args_any F M inp [] [] w h
  rw [ha] at hargs
  have hgw : Glo w := hg.from h.fix.old
  generalize hR : cutF f inp.length inp = OUT at *
  have H := Lib.hid h
  have HG := Lib.hid hgw
  have HG0 := Lib.hid hg
  have HR := Lib.hid hR
  have HP := Lib.hid hp
  have HASK := Lib.hid hA
  have HCC := Lib.hid hC
  have HLE := Lib.hid hlen
  have HAL := Lib.hid hall
  have hr1 : 1 ≤ rest.length := List.length_pos_iff.2 hrest
  clear h hgw hg hR hp hA hC hlen hall hrest
  go_enter Tryz.func55, Tryz.ntmps55
  go_wp2_with fail
  refine hargs.mono ?_
  rintro e w1 ⟨v, rfl, ho1, hb1⟩
  clear hargs
  obtain ⟨g, c, rfl, hcl, -, hgl, hc⟩ := strs_cell ho1 0 (by simp)
  have hss : Ss w1 (some ⟨g, 1, none⟩) rest := fun _ => ⟨g, 1, rfl, fun i hi => by
    have := hc (i + 1) (by simp; omega)
    rw [Nat.add_comm 1 i, this]
    simp⟩
  simp only [List.length_cons] at hcl
  have hpa := parse_any [98, 58, 99, 58, 102, 58, 100, 58, 110, 115] (by decide) rest (some ⟨g, 1, none⟩) (c - 1) (by omega) htot w1 hss
  rw [HP.out] at hpa
  have f1 : (1 : Int) ≤ c := by omega
  have f2 : 1 ≤ c := by omega
  have f3 : ¬ c - 1 = 0 := by omega
  have f4 : ¬ c = 1 := by omega
  have f5 : ¬ c ≤ 1 := by omega
  have HB1 := Lib.hid hb1
  clear ho1 hb1 hc hss
  go_wp2_with fail
  refine hpa.mono ?_
  rintro e w2 ⟨hb2, lv, ov, rfl, hl2, ho2⟩
  obtain ⟨pl, cl, rfl, hlc, hat⟩ := hl2.at_
  obtain ⟨po, co, hov⟩ := strs_shape ho2
  simp only [List.length_nil] at hov
  subst hov
  have HB2 := Lib.hid (HB1.out.trans (hb2.mono HB1.out.size))
  have hasq := askedC_any L fl d l HASK.out pl cl hlc hLN w2 hat (HG.out.below HB2.out)
  clear hpa hb2 hl2 ho2 hat f1 f2 f3 f4 f5
  go_wp2_with fail
  refine hasq.mono ?_
  rintro e w3 ⟨v3, rfl, hsp3, hb3⟩
  obtain ⟨q, cap, rfl, hcap, hat3, hbq⟩ := hsp3.at_
  have HB3 := Lib.hid (HB2.out.trans (hb3.mono HB2.out.size))
  have HSP3 := Lib.hid hat3
  have HBQ := Lib.hid hbq
  have hq3 : ∀ a, q = some a → 0 < l.length → a.block < w3.heap.size := fun a e h0 => by
    obtain ⟨b, o, e2, hlt, -⟩ := hat3 h0
    rw [e] at e2
    obtain rfl := Option.some.inj e2
    exact hlt
  have HQ3 := Lib.hid hq3
  clear hasq hb3 hsp3 hat3 hbq hq3
  go_upto_region 3 with fail
  obtain ⟨w4, hw4⟩ : ∃ w4, w3.alloc (.cells #[.slice q l.length cap, .bool fl, .int .u8 (sepV d), .bool false] 210) = w4 := ⟨_, rfl⟩
  have HB4 := Lib.hid (show Below w.heap.size w w4 by rw [← hw4]; exact HB3.out.alloc HB3.out.size _)
  have HK4 := Lib.hid (show Blk w4 w3.heap.size #[.slice q l.length cap, .bool fl, .int .u8 (sepV d), .bool false] 210 by rw [← hw4]; exact Blk.new _ _ _)
  have HSP4 := Lib.hid (show SpansAt w4 q l by rw [← hw4]; exact HSP3.out.below ((Below.refl _ _).alloc (Nat.le_refl _) _))
  rw [hw4]
  have hin0 := inputs0_any po co w4
  go_wp2_with fail
  refine hin0.mono ?_
  rintro e w5 ⟨rfl, rfl⟩
  clear hin0 hw4
  obtain ⟨w5, hw5⟩ : ∃ w5, w4.alloc (.cells #[.string ⟨#[45]⟩] 9) = w5 := ⟨_, rfl⟩
  have hb45 : Below w4.heap.size w4 w5 := by rw [← hw5]; exact (Below.refl _ _).alloc (Nat.le_refl _) _
  have HB5 := Lib.hid (HB4.out.trans (hb45.mono HB4.out.size))
  have HK5 := Lib.hid (HK4.out.keep hb45 HK4.out.lt)
  have HSP5 := Lib.hid (HSP4.out.below hb45)
  have n0 : w5.cell? ⟨w4.heap.size, 0, none⟩ = some (.string ⟨#[45]⟩) := by rw [← hw5]; exact (Blk.new w4 #[.string ⟨#[45]⟩] 9).cell 0 rfl
  have h35 : w3.heap.size < w5.heap.size := HK5.out.lt
  have h4 := HK4.out.lt
  have HW5 := Lib.hid hw5
  have hrn := rdNew_any F M inp [] [] w5 (H.out.below HB5.out)
  clear hw5 hb45 HK4 HSP4 HSP3 hcap
  go_wp2_with fail
  rw [HW5.out]
  clear HW5
  go_loopw [8, 10, 11, 12, 13, 14, 15, 16, 17, 18, 43] (fun x8 _ _ _ _ _ _ _ _ _ i wr => (x8 = .int .i64 0 ∧ i = .int .i64 0 ∧ wr = w5) ∨ (i = .int .i64 1 ∧ x8 = .int .i64 0 ∧ Hid (MainC F M OUT w (.returned (.int .i64 0)) wr))) (fun _ _ _ _ _ _ _ _ _ _ i _ => 1 - (intOf i).toNat)
  case atStart => exact .inl ⟨rfl, rfl, rfl⟩
  case round =>
    rcases hrel with ⟨rfl, rfl, rfl⟩ | ⟨rfl, rfl, hf⟩
    · go_wp2_with fail
      refine (openDash_any _ _).mono ?_
      rintro e wa ⟨rfl, rfl⟩
      go_wp2_with fail
      refine hrn.mono ?_
      rintro e wB ⟨rfl, hr2, hb2⟩
      clear hrn n0
      have hBs : wa.heap.size < wB.heap.size := by
        obtain ⟨_, hb, -⟩ := hr2.blk
        exact hb.lt
      have HBB := Lib.hid (HB5.out.trans (hb2.mono HB5.out.size))
      have HKB := Lib.hid (HK5.out.keep hb2 HK5.out.lt)
      have HSB := Lib.hid (HSP5.out.below hb2)
      have hst0 : CutSt wB wB F M f P wa.heap.size inp.length M [] 0 false false inp [] OUT :=
        ⟨hr2, by rw [List.nil_append, List.nil_append]; exact HR.out, by simp, by rw [List.nil_append]; exact HAL.out, ⟨Kept.refl _ _, fun _ h => .inl h⟩, by simpa using hin, by simpa using hin2, hbig⟩
      have HS0 := Lib.hid hst0
      have hMl : ∀ j, M j → j < w.heap.size := H.out.lt
      have hwa : w.heap.size ≤ w3.heap.size := HB3.out.size
      have hq5 : ∀ a, q = some a → 0 < l.length → w.heap.size ≤ a.block ∧ a.block < w3.heap.size := fun a e h0 => ⟨Nat.le_trans HB2.out.size (HBQ.out a e), HQ3.out a e h0⟩
      have HQ5 := Lib.hid hq5
      have HML := Lib.hid hMl
      generalize wa.heap.size = rd at *
      clear hr2 hb2 hst0 HBQ HQ3 HK5 HSP5 hq5 hMl
      go_wp2_with fail
      go_loopw [8, 14, 15, 16, 17, 18] (fun x8 _ _ _ _ _ wx => x8 = .int .i64 0 ∧ ∃ k M1 buf o feed over inp1 out1, Hid (CutSt wB wx F M f P rd k M1 buf o feed over inp1 out1 OUT)) (fun _ _ _ _ _ _ wx => lenAt wx F.s0 0 + lenAt wx rd 2)
      case atStart => exact ⟨rfl, inp.length, M, [], 0, false, false, inp, [], HS0⟩
      case round =>
        clear HS0
        obtain ⟨rfl, k, M1, buf, o, feed, over, inp1, out1, HS1⟩ := hrel
        have hline := lineC_any F M1 rd buf o feed over inp1 out1 [] wr HS1.out.r (by have := HS1.out.tot; omega)
        obtain ⟨T, hT⟩ : ∃ T, buf ++ inp1 = T := ⟨_, rfl⟩
        rw [hT] at hline
        have HT := Lib.hid hT
        have hmeas : lenAt wr F.s0 0 + lenAt wr rd 2 = T.length := by rw [HS1.out.r.lens.1, HS1.out.r.lens.2, ← hT]; simp; omega
        have HME := Lib.hid hmeas
        clear hT hmeas
        go_wp2_with fail
        refine hline.mono ?_
        rintro e w6 ⟨hmv, ⟨hlong, rfl, o3, feed3, over3, inp3, hr3⟩ | ⟨hfit, v6, he, hsl6, hcm6, -, o6, over6, buf6, inp6, hr6, hrest6⟩⟩
        · exfalso
          have := HS1.out.lim
          rw [HT.out] at this
          have := Wi.lineOf_len T
          omega
        · clear hline
          by_cases hne : T = []
          · subst hne
            obtain ⟨p6, c6, rfl, -, -⟩ := hsl6.bs
            have heq := HS1.out.eq
            rw [HT.out] at heq
            have hO : out1 = OUT := by
              rw [← heq]
              cases k <;> simp [cutF]
            change e = .returned (.tuple #[.slice p6 0 c6, .bool false, .int .i64 0]) at he
            subst he
            have hfr := rdFree_any F M1 rd buf6 o6 _ over6 inp6 out1 [] w6 hr6.toRdrW
            have HMV := Lib.hid hmv
            have HO := Lib.hid hO
            clear hr6 hmv hO heq hsl6 hcm6 hrest6 hfit
            go_wp2_with fail
            refine hfr.mono ?_
            rintro x w7 ⟨⟨vy, rfl⟩, hr7, hm7⟩
            have hall := (HS1.out.mv.trans HMV.out).trans hm7
            have HFIN := Lib.hid (show MainC F M OUT w (.returned (.int .i64 0)) w7 from by
              refine ⟨inp6, M1, rfl, by rw [← HO.out]; exact hr7.pr, ⟨(Kept.of_below HBB.out).trans' hall.1 fun j hj e => ?_, fun j hj => ?_⟩⟩
              · rcases e with e | e
                · exact e
                · omega
              · rcases hall.2 j hj with e | e
                · exact .inl e
                · have := HBB.out.size; exact .inr (by omega))
            clear hfr hr7 hm7 hall
            go_wp2_with fail
            refine (close0_any _ _).mono ?_
            rintro x w8 ⟨⟨vz, rfl⟩, rfl⟩
            go_wp2_with fail
            go_roundw
            case rel => exact .inr ⟨rfl, rfl, HFIN⟩
            case measure => simp [intOf]
          · have hsome := Wi.line_some hne
            have hrl := Wi.lineOf_rest T hne
            have hll := Wi.lineOf_len T
            have heq := HS1.out.eq
            have hfu := HS1.out.fuel
            have hal := HS1.out.all
            have hlm := HS1.out.lim
            have htt := HS1.out.tot
            rw [HT.out] at heq hfu hal hlm htt
            obtain ⟨k', rfl⟩ : ∃ k', k = k' + 1 := ⟨k - 1, by
              have : 0 < T.length := List.length_pos_iff.2 hne
              omega⟩
            rw [cutF, if_neg hne] at heq
            obtain ⟨hP, hal2⟩ := hal.resolve_left hne
            generalize Wi.lineOf T = LTR at *
            obtain ⟨LT, fd, rr⟩ := LTR
            dsimp only at hsome hrl hll heq hrest6 hr6 hsl6 he hfit hP hal2
            rw [hsome] at he
            subst he
            obtain ⟨p6, c6, rfl, -, -⟩ := id hsl6.bs
            have hmv6 := HS1.out.mv.trans hmv
            have hkk : ∀ j, (M j ∨ j = rd) → j ≠ w3.heap.size ∧ (∀ a, q = some a → 0 < l.length → a.block ≠ j) := fun j e => by
              rcases e with e | e
              · have h1 := HML.out j e
                exact ⟨by omega, fun a ea h0 => by have := (HQ5.out a ea h0).1; omega⟩
              · exact ⟨by omega, fun a ea h0 => by have := (HQ5.out a ea h0).2; omega⟩
            have hkb6 := HKB.out.kept hmv6.1 (fun e => (hkk _ e).1 rfl)
            have hsp6 : SpansAt w6 q l := fun h0 => HSB.out.kept hmv6.1 (fun a ea e => (hkk _ e).2 a ea h0 rfl) h0
            have c0 := hkb6.cell 0 (v := .slice q l.length cap) rfl
            have c1 := hkb6.cell 1 (v := .bool fl) rfl
            have c2 := hkb6.cell 2 (v := .int .u8 (sepV d)) rfl
            have c3 := hkb6.cell 3 (v := .bool false) rfl
            have hcl := HCC.out q cap w6 _ _ LT hsp6 (HG0.out.from hr6.pr.fix.old) hsl6 hcm6 hP (by omega)
            have HMV6 := Lib.hid hmv6
            have HR6 := Lib.hid hr6
            have HEQ := Lib.hid heq
            have HLS := Lib.hid (And.intro hfu (And.intro hrl (And.intro htt (And.intro hlm (And.intro hll hal2)))))
            have HRE := Lib.hid hrest6
            clear hmv hsl6 hcm6 hfit hmv6 hkk hkb6 hsp6 hr6 heq hfu hrl htt hlm hll hal2 hrest6 hP hsome
            go_wp2_with fail
            refine hcl.mono ?_
            rintro e w7 ⟨v7, rfl, hs7, hb7⟩
            obtain ⟨p7, c7, rfl, -, -⟩ := id hs7.bs
            have hfl := HLE.out LT
            have hcn := cloneB_any _ _ _ w7 hs7 (by have := HLS.out; omega)
            have HB7 := Lib.hid hb7
            have HFL := Lib.hid hfl
            clear hcl hs7 hb7 c0 c1 c2 c3 hfl
            go_wp2_with fail
            refine hcn.mono ?_
            rintro e w8 ⟨v8, rfl, ho8, hb8⟩
            obtain ⟨p8, c8, rfl⟩ := own_shape ho8
            have HB8 := Lib.hid (HB7.out.trans (hb8.mono HB7.out.size))
            have HO8 := Lib.hid ho8
            have hs78 : w6.heap.size ≤ w7.heap.size := HB7.out.size
            have hs88 : w7.heap.size ≤ w8.heap.size := hb8.size
            clear hcn ho8 hb8
            obtain ⟨i0, hi, hz0, hz1, hz2⟩ := info_parts info_byte
            have hXl : (f LT).length ≤ 1000000 := by have := HLS.out; have := HFL.out; omega
            go_wp2_with (at_builtin; go_loud (refine wpList_append_g (by rfl) _ _ 33 rfl w7.heap.size 5 i0 (.int .u8 0) 1 1 Tryz.underlying33 hi hz0 hz1 hz2 rfl (by decide) _ _ _ rfl (HO8.out.alloc _) ⟨w8.heap.size, 0, none⟩ 1 1 [.int .u8 10] rfl rfl (cell_one_new _ _ _) (by simp [Value.oneCell']) (by unfold maxLen; first | omega | (simp <;> omega)) (by first | omega | (simp <;> omega)) (by have := HB8.out.size; simp <;> omega) ?_; intro v9 w9 hown9 hgrow9 _))
            have hb9 : Below w6.heap.size w6 w9 := (HB8.out.alloc HB8.out.size _).grown hgrow9 (by have := HB8.out.size; simp <;> omega) fun j hj => by have := (HO8.out.lt j hj).1; omega
            have hown : w9.ownsRow w7.heap.size 5 1 v9 (f LT ++ [10]).length ((f LT ++ [10]).map u8V) := by simpa [u8V] using hown9
            have hs9 : Sl w9 (fun g => ¬ M1 g) v9 (f LT ++ [10]) := (Sl.own hown).mono fun g _ hg hM => by
              have h1 := HR6.out.pr.lt g hM
              have h2 := hg.1
              omega
            have hlo := congrArg List.length HEQ.out
            simp only [List.length_append, List.length_singleton] at hlo
            have hbg := HS1.out.big
            have hsy := saysC_any F M1 inp6 out1 [] (f LT ++ [10]) v9 w9 (HR6.out.pr.below hb9) hs9 (by simp; omega)
            have HB9 := Lib.hid hb9
            obtain ⟨p9, c9, rfl⟩ := own_shape hown
            clear hb9 hown hs9 hlo hbg hown9 hgrow9
            refine hsy.mono ?_
            rintro e w10 ⟨rfl, M2, hp10, hm10⟩
            have hst : CutSt wB w10 F M f P rd k' M2 buf6 o6 fd over6 inp6 (out1 ++ (f LT ++ [10])) OUT := by
              have hls := HLS.out
              refine ⟨⟨(HR6.out.toRdrW.below HB9.out).pass hp10 hm10, HR6.out.over_⟩, ?_, ?_, ?_, (HMV6.out.trans ((Kept.of_below (S := M1) HB9.out).rd rd)).trans (hm10.rd rd), ?_, ?_, HS1.out.big⟩
              · rw [HRE.out, List.append_assoc]; exact HEQ.out
              · rw [HRE.out]; omega
              · rw [HRE.out]; exact hls.2.2.2.2.2
              · rw [HRE.out]; omega
              · rw [HRE.out]; omega
            have HST := Lib.hid hst
            have hms : lenAt w10 F.s0 0 + lenAt w10 rd 2 < T.length := by
              have h1 := hst.r.lens
              have h2 := congrArg List.length HRE.out
              have h3 := HLS.out.2.1
              simp only [List.length_append] at h2
              omega
            have HMS := Lib.hid hms
            clear hsy hp10 hm10 hst hms
            go_wp2_with fail
            go_roundw
            case rel => exact ⟨rfl, _, _, _, _, _, _, _, _, HST⟩
            case measure => rw [HME.out]; exact HMS.out
    · go_wp2_with fail
      go_ret
      exact hf.out

end Go.Proofs.YtjdcjdclipbjhaaGreatDoor

/-
  The walks of paste's feeds: begun, next. Conditions: a process that runs; the feed is the process's own input; lines that fit.
-/
namespace Go.Proofs.YtjdcjdclipbjhaaGreatDoor
open Go.RowKit Go.Shelf Go.Maps

/-- A feed's block. -/
def FdBlk (W : World) (fb : Nat) (r : Option Addr) : Prop := Blk W fb #[.string ⟨#[45]⟩, .int .i64 0, .pointer r, .int .i64 0] 229
/-- A feed of the process's own input: what is still to come of it (T). -/
structure FdSt (W : World) (F : Fx) (M : Nat → Prop) (fb rd : Nat) (T out : Bts) : Prop where
  st : (∃ buf o feed over inp, Rdr W F M rd buf o feed over inp out [] ∧ FdBlk W fb (some ⟨rd, 0, none⟩) ∧ buf ++ inp = T) ∨ (T = [] ∧ FdBlk W fb none ∧ ∃ inp, PrAt W F M inp out [])
  own : ¬ M fb ∧ ¬ M rd ∧ fb ≠ rd ∧ F.n0 ≤ fb ∧ F.n0 ≤ rd ∧ fb < W.heap.size ∧ rd < W.heap.size
/-- From a world to another one where a feed has turned. -/
def MvF (M M' : Nat → Prop) (fb rd : Nat) (W W' : World) : Prop := Kept (fun j => M j ∨ j = rd ∨ j = fb) W W' ∧ ∀ j, M' j → M j ∨ W.heap.size ≤ j
theorem MvF.trans {M M' M'' : Nat → Prop} {fb rd : Nat} {W W' W'' : World} (h : MvF M M' fb rd W W') (h2 : MvF M' M'' fb rd W' W'') : MvF M M'' fb rd W W'' :=
  ⟨h.1.trans' h2.1 fun k hk hm => by
    rcases hm with hm | hm
    · rcases h.2 k hm with h1 | h1
      · exact .inl h1
      · omega
    · exact .inr hm, fun j hj => by
    rcases h2.2 j hj with h1 | h1
    · exact h.2 j h1
    · exact .inr (Nat.le_trans h.1.size h1)⟩
theorem MvF.refl (M : Nat → Prop) (fb rd : Nat) (W : World) : MvF M M fb rd W W := ⟨Kept.refl _ _, fun _ h => .inl h⟩
theorem MvR.fd {M M' : Nat → Prop} {rd : Nat} {W W' : World} (h : MvR M M' rd W W') (fb : Nat) : MvF M M' fb rd W W' := ⟨h.1.mono fun _ _ e => by rcases e with e | e; exact .inl e; exact .inr (.inl e), h.2⟩
theorem Mv.fd {M M' : Nat → Prop} {W W' : World} (h : Mv M M' W W') (fb rd : Nat) : MvF M M' fb rd W W' := (h.rd rd).fd fb
theorem MvF.below {M : Nat → Prop} {W W' : World} (h : Below W.heap.size W W') (fb rd : Nat) : MvF M M fb rd W W' := (Mv.below h).fd fb rd
theorem FdSt.pr {W : World} {F : Fx} {M : Nat → Prop} {fb rd : Nat} {T out : Bts} (h : FdSt W F M fb rd T out) : ∃ inp, PrAt W F M inp out [] := by
  rcases h.st with ⟨_, _, _, _, inp, hr, -⟩ | ⟨-, -, h⟩
  · exact ⟨inp, hr.pr⟩
  · exact h
theorem FdSt.below {W W' : World} {F : Fx} {M : Nat → Prop} {fb rd : Nat} {T out : Bts} (h : FdSt W F M fb rd T out) (hb : Below W.heap.size W W') : FdSt W' F M fb rd T out := by
  obtain ⟨hs, h1, h2, h3, h4, h5, h6, h7⟩ := h
  refine ⟨?_, h1, h2, h3, h4, h5, Nat.lt_of_lt_of_le h6 hb.size, Nat.lt_of_lt_of_le h7 hb.size⟩
  rcases hs with ⟨buf, o, feed, over, inp, hr, hf, e⟩ | ⟨e, hf, inp, hp⟩
  · exact .inl ⟨buf, o, feed, over, inp, hr.below hb, Blk.keep hf hb (Blk.lt hf), e⟩
  · exact .inr ⟨e, Blk.keep hf hb (Blk.lt hf), inp, hp.below hb⟩
/-- The process may tell more. -/
theorem FdSt.pass {W : World} {F : Fx} {M : Nat → Prop} {fb rd : Nat} {T out : Bts} (h : FdSt W F M fb rd T out) : ∃ inp, PrAt W F M inp out [] ∧ ∀ W' M' out', PrAt W' F M' inp out' [] → Mv M M' W W' → FdSt W' F M' fb rd T out' := by
  obtain ⟨hs, h1, h2, h3, h4, h5, h6, h7⟩ := h
  rcases hs with ⟨buf, o, feed, over, inp, hr, hf, e⟩ | ⟨e, hf, inp, hq⟩
  · exact ⟨inp, hr.pr, fun W' M' out' hp hm => ⟨.inl ⟨buf, o, feed, over, inp, ⟨hr.toRdrW.pass hp hm, hr.over_⟩, Blk.kept hf hm.kept h1, e⟩, hm.not h6 h1, hm.not h7 h2, h3, h4, h5, Nat.lt_of_lt_of_le h6 hm.kept.size, Nat.lt_of_lt_of_le h7 hm.kept.size⟩⟩
  · exact ⟨inp, hq, fun W' M' out' hp hm => ⟨.inr ⟨e, Blk.kept hf hm.kept h1, inp, hp⟩, hm.not h6 h1, hm.not h7 h2, h3, h4, h5, Nat.lt_of_lt_of_le h6 hm.kept.size, Nat.lt_of_lt_of_le h7 hm.kept.size⟩⟩
theorem FdSt.err {W : World} {F : Fx} {M : Nat → Prop} {fb rd : Nat} {T out : Bts} (h : FdSt W F M fb rd T out) : W.cell? ⟨fb, 3, none⟩ = some (.int .i64 0) := by
  rcases h.st with ⟨_, _, _, _, _, _, hf, -⟩ | ⟨-, hf, -⟩
  · exact Blk.cell hf 3 rfl
  · exact Blk.cell hf 3 rfl

/-- The reader's buffer does not lie in a block. -/
def Nb (W : World) (fb rd k : Nat) : Prop := W.cell? ⟨fb, 2, none⟩ = some (.pointer (some ⟨rd, 0, none⟩)) → ∀ a n c, W.cell? ⟨rd, 2, none⟩ = some (.slice (some a) n c) → a.block ≠ k
theorem FdSt.bufLt {W : World} {F : Fx} {M : Nat → Prop} {fb rd : Nat} {T out : Bts} (h : FdSt W F M fb rd T out) (k : Nat) (hk : W.heap.size ≤ k) : Nb W fb rd k := by
  rcases h.st with ⟨buf, o, feed, over, inp, hr, hf, -⟩ | ⟨-, hf, -⟩
  · intro _ a n c e
    obtain ⟨v, hb, hs⟩ := hr.blk
    have e2 := (Blk.cell hb 2 (v := v) rfl).symm.trans e
    obtain rfl := Option.some.inj e2
    rcases hs with ⟨-, h1⟩ | ⟨g, o, c', h1, -, h3, -⟩
    · cases h1
    · injection h1 with h1
      injection h1 with h1
      subst h1
      show g ≠ k
      omega
  · intro e
    rw [Blk.cell hf 2 (v := .pointer none) rfl] at e
    cases e
/-- A row of the utility's own has grown. -/
theorem FdSt.grown {W W' : World} {F : Fx} {M : Nat → Prop} {fb rd : Nat} {T out : Bts} (h : FdSt W F M fb rd T out) {row : Option Nat} (hg : W.grownBy W' row) (hrow : ∀ k, row = some k → ¬ M k ∧ k ≠ rd ∧ k ≠ fb ∧ F.n0 ≤ k ∧ Nb W fb rd k) : FdSt W' F M fb rd T out := by
  obtain ⟨hs, h1, h2, h3, h4, h5, h6, h7⟩ := h
  have hk : Kept (fun j => row = some j) W W' := ⟨hg.os, hg.tape, hg.output, hg.size, fun j hj hs => hg.block j hj fun e => hs e.symm⟩
  refine ⟨?_, h1, h2, h3, h4, h5, Nat.lt_of_lt_of_le h6 hg.size, Nat.lt_of_lt_of_le h7 hg.size⟩
  have hS : ∀ j, row = some j → F.n0 ≤ j ∧ ¬ M j := fun j e => ⟨(hrow j e).2.2.2.1, (hrow j e).1⟩
  rcases hs with ⟨buf, o, feed, over, inp, hr, hf, e⟩ | ⟨e, hf, inp, hq⟩
  · refine .inl ⟨buf, o, feed, over, inp, ⟨hr.toRdrW.kept hk (fun j e => ⟨(hS j e).1, (hS j e).2, (hrow j e).2.1⟩) fun v hv j hj a n c e2 => ?_, hr.over_⟩, Blk.kept hf hk fun e2 => (hrow _ e2).2.2.1 rfl, e⟩
    subst e2
    exact (hrow j hj).2.2.2.2 (Blk.cell hf 2 rfl) a n c hv
  · exact .inr ⟨e, Blk.kept hf hk fun e2 => (hrow _ e2).2.2.1 rfl, inp, hq.kept hk hS⟩
theorem Nb.kept {S : Nat → Prop} {W W' : World} {fb rd k : Nat} (h : Nb W fb rd k) (hk : Kept S W W') (h1 : ¬ S fb) (h2 : ¬ S rd) (h3 : fb < W.heap.size) (h4 : rd < W.heap.size) : Nb W' fb rd k := fun e a n c e2 =>
  h ((World.cell?_of_block (hk.block fb h3 h1)).symm.trans e) a n c ((World.cell?_of_block (hk.block rd h4 h2)).symm.trans e2)

set_option maxRecDepth 100000 in
set_option maxHeartbeats 4000000 in
theorem rdNew2_any (p : Nat) (w : World) :
    Calls Tryz.prog 95 #[.pointer (some ⟨p, 0, none⟩), .int .i64 0] w fun e w' => e = .returned (.pointer (some ⟨w.heap.size, 0, none⟩)) ∧ RdBlk w' p w.heap.size (.slice none 0 0) 0 false false ∧ Below w.heap.size w w' := by
  go_enter Tryz.func95, Tryz.ntmps95
  go_wp2_with fail
  go_ret
  exact ⟨rfl, Blk.new _ _ _, (Below.refl _ _).alloc (Nat.le_refl _) _⟩

set_option maxRecDepth 100000 in
set_option maxHeartbeats 4000000 in
theorem begun_any (F : Fx) (M : Nat → Prop) (inp out : Bts) (w : World) (h : PrAt w F M inp out []) :
    Calls Tryz.prog 105 #[.pointer (some ⟨F.p, 0, none⟩), .string ⟨#[45]⟩] w fun e w' => ∃ rd, e = .returned (.pointer (some ⟨w.heap.size, 0, none⟩)) ∧ FdSt w' F M w.heap.size rd inp out ∧ w.heap.size < rd ∧ Below w.heap.size w w' := by
  obtain ⟨w1, hw1⟩ : ∃ w1, w.alloc (.cells #[.string ⟨#[45]⟩, .int .i64 0, .pointer none, .int .i64 0] 229) = w1 := ⟨_, rfl⟩
  have hb1 : Below w.heap.size w w1 := by rw [← hw1]; exact (Below.refl _ _).alloc (Nat.le_refl _) _
  have hk1 : Blk w1 w.heap.size #[.string ⟨#[45]⟩, .int .i64 0, .pointer none, .int .i64 0] 229 := by rw [← hw1]; exact Blk.new _ _ _
  have c1 := hk1.cell 1 (v := .int .i64 0) rfl
  have c3 := hk1.cell 3 (v := .int .i64 0) rfl
  have f1 := hk1.free 1
  have f3 := hk1.free 3
  have HB1 := Lib.hid hb1
  have HK1 := Lib.hid hk1
  have H := Lib.hid h
  clear hb1 hk1 h
  go_enter Tryz.func105, Tryz.ntmps105
  go_wp2_with fail
  try rw [hw1]
  refine (openDash_any _ _).mono ?_
  rintro e w2 ⟨rfl, rfl⟩
  clear hw1
  obtain ⟨w3, hw3⟩ : ∃ w3, (w2.setCell ⟨w.heap.size, 1, none⟩ (.int .i64 0)).setCell ⟨w.heap.size, 3, none⟩ (.int .i64 0) = w3 := ⟨_, rfl⟩
  have hk3 : Blk w3 w.heap.size #[.string ⟨#[45]⟩, .int .i64 0, .pointer none, .int .i64 0] 229 := by rw [← hw3]; exact (HK1.out.set 1 _).set 3 _
  have hb3 : Below w.heap.size w w3 := by rw [← hw3]; exact (HB1.out.setCell (p := ⟨w.heap.size, 1, none⟩) (Nat.le_refl _) _).setCell (p := ⟨w.heap.size, 3, none⟩) (Nat.le_refl _) _
  have hrn := rdNew2_any F.p w3
  have HK3 := Lib.hid hk3
  have HB3 := Lib.hid hb3
  have HW3 := Lib.hid hw3
  clear hw3 hk3 hb3
  go_upto_region 3 with fail
  rw [HW3.out]
  clear c1 c3 f1 f3 HK1 HB1 HW3
  have d1 := HK3.out.cell 1 (v := .int .i64 0) rfl
  have d3 := HK3.out.cell 3 (v := .int .i64 0) rfl
  go_wp2_with fail
  refine hrn.mono ?_
  rintro e w4 ⟨rfl, hr4, hb4⟩
  have hk4 := HK3.out.keep hb4 HK3.out.lt
  have hlt := HK3.out.lt
  have f2 := hk4.free 2
  have c2 := hk4.cell 2 (v := .pointer none) rfl
  have hp4 := (H.out.below HB3.out).below hb4
  have hb4w : Below w.heap.size w w4 := HB3.out.trans (hb4.mono HB3.out.size)
  have hrl := hr4.lt
  have hkk : Kept (fun j => j = w.heap.size) w4 (w4.setCell ⟨w.heap.size, 2, none⟩ (.pointer (some ⟨w3.heap.size, 0, none⟩))) := (Kept.refl (fun j => j = w.heap.size) w4).setCell (.inl rfl) 2 _
  have hMw : ¬ M w.heap.size := fun e => by have := H.out.lt _ e; omega
  have hMr : ¬ M w3.heap.size := fun e => by have := H.out.lt _ e; omega
  have hn0 := H.out.n0
  have hp5 := hp4.kept hkk fun j e => by subst e; exact ⟨hn0, hMw⟩
  have HFIN := Lib.hid (show FdSt (w4.setCell ⟨w.heap.size, 2, none⟩ (.pointer (some ⟨w3.heap.size, 0, none⟩))) F M w.heap.size w3.heap.size inp out from
    ⟨.inl ⟨[], 0, false, false, inp, ⟨⟨hp5, ⟨.slice none 0 0, Blk.kept hr4 hkk (by show ¬ w3.heap.size = w.heap.size; omega), Sl.nil _ _⟩, by omega, hMr⟩, fun e => by cases e⟩, hk4.set 2 _, rfl⟩, hMw, hMr, by omega, hn0, by omega, by simp; omega, by simp; omega⟩)
  have HBF := Lib.hid (hb4w.setCell (p := ⟨w.heap.size, 2, none⟩) (Nat.le_refl _) (.pointer (some ⟨w3.heap.size, 0, none⟩)))
  clear hrn hr4 hb4 hk4 hp4 hb4w hrl hkk hp5
  go_wp2_with fail
  go_ret
  exact ⟨_, rfl, HFIN.out, hlt, HBF.out⟩

end Go.Proofs.YtjdcjdclipbjhaaGreatDoor

/-
  The walk of a feed's next. Conditions: the feed is the process's own input; lines that fit.
-/
namespace Go.Proofs.YtjdcjdclipbjhaaGreatDoor
open Go.RowKit Go.Shelf Go.Maps

/-- What next hands back. -/
def NextPost (F : Fx) (M : Nat → Prop) (fb rd : Nat) (T out : Bts) (w : World) (e : Ending) (w' : World) : Prop :=
  ∃ v, e = .returned (.tuple #[v, .bool (!T.isEmpty)]) ∧ w'.ownsRow w.heap.size 5 1 v (Wi.lineOf T).1.length ((Wi.lineOf T).1.map u8V) ∧ FdSt w' F M fb rd (Wi.lineOf T).2.2 out ∧ MvF M M fb rd w w' ∧ ∀ k, k < w.heap.size → Nb w fb rd k → Nb w' fb rd k

set_option maxRecDepth 100000 in
set_option maxHeartbeats 8000000 in
theorem next_any (F : Fx) (M : Nat → Prop) (fb rd : Nat) (T out : Bts) (hT : T.length ≤ 1000000) (hL : T.length ≤ F.line) (w : World) (h : FdSt w F M fb rd T out) :
    Calls Tryz.prog 165 #[.pointer (some ⟨fb, 0, none⟩), .pointer (some ⟨F.p, 0, none⟩)] w fun e w' => NextPost F M fb rd T out w e w' := by
  have hown := h.own
  have H := Lib.hid h
  rcases h.st with ⟨buf, o, feed, over, inp, hr, hf, rfl⟩ | ⟨rfl, hf, inp, hp⟩
  · have c2 := Blk.cell hf 2 (v := .pointer (some ⟨rd, 0, none⟩)) rfl
    have hline := lineC_any F M rd buf o feed over inp out [] w hr (by omega)
    obtain ⟨T, hTe⟩ : ∃ T, buf ++ inp = T := ⟨_, rfl⟩
    rw [hTe] at hline hT hL H ⊢
    have HF := Lib.hid hf
    have HM := Lib.hid hr.pr.lt
    have HN0 := Lib.hid hr.pr.n0
    clear h hr hf hTe
    go_enter Tryz.func165, Tryz.ntmps165
    go_wp2_with fail
    refine hline.mono ?_
    rintro e w6 ⟨hmv, ⟨hlong, rfl, o3, feed3, over3, inp3, hr3⟩ | ⟨hfit, v6, he, hsl6, -, hbi6, o6, over6, buf6, inp6, hr6, hrest6⟩⟩
    · exfalso
      have := Wi.lineOf_len T
      omega
    · clear hline c2
      have hf6 := Blk.kept HF.out hmv.1 (fun e => by
        rcases e with e | e
        · exact hown.1 e
        · exact hown.2.2.1 e)
      have hsz6 := hmv.1.size
      by_cases hne : T = []
      · subst hne
        obtain ⟨p6, c6, rfl, -, -⟩ := id hsl6.bs
        change e = .returned (.tuple #[.slice p6 0 c6, .bool false, .int .i64 0]) at he
        subst he
        have hfr := rdFree_any F M rd buf6 o6 _ over6 inp6 out [] w6 hr6.toRdrW
        have c2 := Blk.cell hf6 2 (v := .pointer (some ⟨rd, 0, none⟩)) rfl
        have HMV := Lib.hid hmv
        have HF6 := Lib.hid hf6
        have HSL := Lib.hid (show Sl w6 (fun g => w.heap.size ≤ g) (.slice p6 0 c6) [] from hsl6.mono fun g _ hg => hg.1)
        clear hr6 hmv hsl6 hrest6 hfit hf6
        go_wp2_with fail
        refine hfr.mono ?_
        rintro x w7 ⟨⟨vy, rfl⟩, hr7, hm7⟩
        have hf7 := Blk.kept HF6.out hm7.1 (fun e => by
          rcases e with e | e
          · exact hown.1 e
          · exact hown.2.2.1 e)
        have hsz7 := hm7.1.size
        have d2 := hf7.cell 2 (v := .pointer (some ⟨rd, 0, none⟩)) rfl
        have f2 := hf7.free 2
        obtain ⟨w8, hw8⟩ : ∃ w8, w7.setCell ⟨fb, 2, none⟩ (.pointer none) = w8 := ⟨_, rfl⟩
        have hk8 : Kept (fun j => j = fb) w7 w8 := by rw [← hw8]; exact (Kept.refl (fun j => j = fb) w7).setCell (.inl rfl) 2 _
        have hf8 : FdBlk w8 fb none := by rw [← hw8]; exact hf7.set 2 _
        have hp8 := hr7.pr.kept hk8 fun j e => by subst e; exact ⟨hown.2.2.2.1, hown.1⟩
        have hmv8 : MvF M M fb rd w w8 := ((HMV.out.fd fb).trans (hm7.fd fb)).trans ⟨hk8.mono fun _ _ e => .inr (.inr e), fun _ h => .inl h⟩
        have hs8 : Sl w8 (fun _ => True) (.slice p6 0 c6) [] := ((HSL.out.kept hm7.1 fun g _ hg e => by
          have h5 : w.heap.size ≤ g := hg
          rcases e with e | e
          · have := HM.out g e; omega
          · have := hown.2.2.2.2.2.2; omega).kept hk8 fun g _ hg e => by
          have h5 : w.heap.size ≤ g := hg
          have := hown.2.2.2.2.2.1; omega).mono fun _ _ _ => trivial
        have d1 := Blk.cell hf8 1 (v := .int .i64 0) rfl
        have hcn := cloneB_any _ _ _ w8 hs8 (by simp)
        have HF8 := Lib.hid hf8
        have HP8 := Lib.hid hp8
        have HMV8 := Lib.hid hmv8
        have HW8 := Lib.hid hw8
        clear hfr hr7 hm7 hf7 hk8 hf8 hp8 hmv8 hs8 hw8
        go_upto_region 10 with fail
        rw [HW8.out]
        clear d2 f2
        go_wp2_with fail
        refine (close0_any _ _).mono ?_
        rintro x w9 ⟨⟨vz, rfl⟩, rfl⟩
        go_wp2_with fail
        refine hcn.mono ?_
        rintro e w10 ⟨v10, rfl, ho10, hb10⟩
        have HO10 := Lib.hid ho10
        have HB10 := Lib.hid hb10
        clear hcn ho10 hb10
        go_wp2_with fail
        go_ret2
        refine ⟨v10, rfl, own_mono HO10.out HMV8.out.1.size, ?_, HMV8.out.trans (MvF.below HB10.out fb rd), fun k _ _ e => ?_⟩
        rotate_left
        · rw [Blk.cell (Blk.keep HF8.out HB10.out (Blk.lt HF8.out)) 2 (v := .pointer none) rfl] at e
          cases e
        exact ⟨.inr ⟨rfl, Blk.keep HF8.out HB10.out (Blk.lt HF8.out), inp6, HP8.out.below HB10.out⟩, hown.1, hown.2.1, hown.2.2.1, hown.2.2.2.1, hown.2.2.2.2.1, by have := HMV8.out.1.size; have := HB10.out.size; omega, by have := HMV8.out.1.size; have := HB10.out.size; omega⟩
      · have hsome := Wi.line_some hne
        rw [hsome] at he
        subst he
        have hie : (!T.isEmpty) = true := by
          cases T with
          | nil => exact absurd rfl hne
          | cons _ _ => rfl
        have hll := Wi.lineOf_len T
        have HIE := Lib.hid hie
        obtain ⟨LT, fd, rr, hLTR⟩ : ∃ LT fd rr, Wi.lineOf T = (LT, fd, rr) := ⟨_, _, _, rfl⟩
        rw [hLTR] at hfit hsl6 hr6 hrest6 hll
        have HLTR := Lib.hid hLTR
        clear hLTR
        dsimp only at hfit hsl6 hr6 hrest6 hll
        obtain ⟨p6, c6, rfl, -, -⟩ := id hsl6.bs
        have hcn := cloneB_any _ _ _ w6 hsl6 (by omega)
        have hst6 : FdSt w6 F M fb rd rr out := ⟨.inl ⟨buf6, o6, fd, over6, inp6, hr6, hf6, hrest6⟩, hown.1, hown.2.1, hown.2.2.1, hown.2.2.2.1, hown.2.2.2.2.1, by have := hown.2.2.2.2.2.1; omega, by have := hown.2.2.2.2.2.2; omega⟩
        have HST6 := Lib.hid hst6
        have HBI := Lib.hid hbi6
        have c2w := Blk.cell HF.out 2 (v := .pointer (some ⟨rd, 0, none⟩)) rfl
        have HMV := Lib.hid hmv
        clear hr6 hmv hsl6 hrest6 hfit hf6 hsome hie hst6
        go_wp2_with fail
        refine hcn.mono ?_
        rintro e w7 ⟨v7, rfl, ho7, hb7⟩
        have HO7 := Lib.hid ho7
        have HB7 := Lib.hid hb7
        clear hcn ho7 hb7
        go_wp2_with fail
        go_ret2
        unfold NextPost
        rw [HLTR.out, HIE.out]
        exact ⟨v7, rfl, own_mono HO7.out hsz6, HST6.out.below HB7.out, (HMV.out.fd fb).trans (MvF.below HB7.out fb rd), fun k hk hnb => Nb.kept (fun _ a n c e => by
          rcases HBI.out a n c e with h1 | ⟨a0, n0, c0, h1, h2⟩
          · omega
          · rw [← h2]; exact hnb c2w a0 n0 c0 h1) (Kept.of_below (S := fun _ => False) HB7.out) id id HST6.out.own.2.2.2.2.2.1 HST6.out.own.2.2.2.2.2.2⟩
  · have c2 := Blk.cell hf 2 (v := .pointer none) rfl
    clear h hf hp
    go_enter Tryz.func165, Tryz.ntmps165
    go_wp2_with fail
    go_ret2
    exact ⟨_, rfl, World.ownsRow_nil _ _ _ _, H.out, MvF.refl _ _ _ _, fun _ _ h => h⟩

end Go.Proofs.YtjdcjdclipbjhaaGreatDoor

/-
  append of bytes onto bytes that a string was turned to. Condition: the cells are known, in memory, none of them frozen.
-/
namespace Go.Proofs.YtjdcjdclipbjhaaGreatDoor
open Go.RowKit Go.Shelf Go.Maps

theorem setCells_kept (g : Nat) : ∀ (vs : List Value) (o : Nat) (w w1 : World), Kept (fun j => j = g) w w1 → Kept (fun j => j = g) w (w1.setCells g o vs)
  | [], _, _, _, h => h
  | v :: r, o, w, _, h => setCells_kept g r (o + 1) w _ (h.setCell (.inl rfl) o v)

theorem run_append_conv (w : World) (g n cap : Nat) (xs news : List Value) (hx : xs.length = n) (hold : ∀ j u, xs[j]? = some u → w.cell? ⟨g, j, none⟩ = some u)
    (hcell : ∀ i, i < cap → (w.cell? ⟨g, i, none⟩).isSome = true) (hfz : ∀ i, i < cap → w.frozen? ⟨g, i, none⟩ = false) (_hnc : n ≤ cap) (ad : Addr) (m c : Nat) (hl : news.length = m) (hnews : ∀ j u, news[j]? = some u → w.cell? (ad.add j) = some u) (h1 : ∀ u ∈ news, u.oneCell' = true) (h0 : 0 < m) (h63 : n + m ≤ 4294967296) (ty : TypeId) :
    ∃ g' cap' w', (Builtin.append_ #[33, 33] ty #[.slice (some ⟨g, 0, none⟩) n cap, .slice (some ad) m c]).run Tryz.prog w = .ok (.slice (some ⟨g', 0, none⟩) (n + m) cap') w' ∧ (∀ j u, (xs ++ news)[j]? = some u → w'.cell? ⟨g', j, none⟩ = some u) ∧ n + m ≤ cap' ∧ (g' = g ∨ g' = w.heap.size) ∧ g' < w'.heap.size ∧ w.grownBy w' (some g) := by
  obtain ⟨i0, hi, hz0, hz1, hz2⟩ := info_parts info_byte
  have hadd : ∀ (g i : Nat), (⟨g, 0, none⟩ : Addr).add i = ⟨g, i, none⟩ := fun g i => by unfold Addr.add; split <;> simp_all
  by_cases hroom : n + m ≤ cap
  · have hf := run_firstCells_some (P := Tryz.prog) w i0.size m ad m c news (by rw [hz1, hl]; omega) hnews
    have hst := run_storeCells_cells (P := Tryz.prog) g n news 0 w (fun j hj => hcell _ (by omega)) (fun j hj => hfz _ (by omega)) h1
    rw [Nat.add_zero] at hst
    rw [hz1] at hf
    have hk := setCells_kept g news n w w (Kept.refl _ _)
    have hgl : g < w.heap.size := by
      obtain ⟨u, hu⟩ := Option.isSome_iff_exists.1 (hcell 0 (by omega))
      exact World.block_lt_of_cell? _ _ hu
    refine ⟨g, cap, w.setCells g n news, ?_, ?_, hroom, .inl rfl, Nat.lt_of_lt_of_le hgl hk.size, ⟨hk.os, hk.tape, hk.output, hk.size, fun k h1 h2 => hk.block k h1 fun e => h2 (by rw [e])⟩⟩
    · simp [Builtin.append_, run_underlying Tryz.underlying33, sizeOf, typeInfo, hi, Builtin.lenOf, hroom, hf, hz1, hadd, hst]
    · intro j u hu
      rcases Nat.lt_or_ge j n with hj | hj
      · rw [List.getElem?_append_left (by omega)] at hu
        rw [World.cell?_setCells_out g news n w ⟨g, j, none⟩ (fun _ _ => .inl hj)]
        exact hold j u hu
      · rw [List.getElem?_append_right (by omega), hx] at hu
        have hjm : j - n < news.length := (List.getElem?_eq_some_iff.1 hu).1
        have := World.cell?_setCells_in g news n w (fun i hi => hcell _ (by omega)) (j - n) hjm
        rw [show n + (j - n) = j by omega] at this
        rw [this, ← hu, List.getElem?_eq_getElem hjm]
  · have hr := run_append_grow (P := Tryz.prog) w 33 ty 5 i0 (.int .u8 0) Tryz.underlying33 hi hz0 ⟨g, 0, none⟩ n cap xs (by rw [hz1, hx]; omega) (fun j u hu => by rw [hadd]; exact hold j u hu) ad m c news (by rw [hz1, hl]; omega) hnews (by omega) (by omega) (by rw [hz2]; exact growslice_fits (by omega) (by omega))
    have hge := grownCap_ge w (n + m) cap 5
    refine ⟨w.heap.size, _, _, hr, ?_, hge, .inr rfl, by simp, ⟨rfl, rfl, rfl, by simp, fun k hk _ => heap_alloc_old w.drew _ hk⟩⟩
    intro j u hu
    have hb : ((w.drew.alloc (.cells (xs.toArray ++ news.toArray ++ Builtin.zeroCells (Value.int .u8 0).cells (grownCap w (n + m) cap 5 - (n + m))) 5))).heap[w.heap.size]? = _ := heap_alloc_new w.drew _
    rw [Lib.cell_of_heap hb]
    have hjl : j < (xs ++ news).length := (List.getElem?_eq_some_iff.1 hu).1
    rw [Array.getElem?_append_left (by simpa using hjl), ← hu]
    simp

/-- Bytes that a string was turned to: a block with nothing frozen in it. -/
structure ConvAt (w : World) (g cap : Nat) (xs : Bts) : Prop where
  at_ : Bs w (some ⟨g, 0, none⟩) xs
  cell : ∀ i, i < cap → (w.cell? ⟨g, i, none⟩).isSome = true
  free : ∀ i, i < cap → w.frozen? ⟨g, i, none⟩ = false
  le : xs.length ≤ cap

theorem conv_at (l : Bts) (w : World) : ∃ c w1, (convert 9 33 (.string ⟨l.toArray⟩)).run Tryz.prog w = .ok (.slice (some ⟨w.heap.size, 0, none⟩) l.length c) w1 ∧ Below w.heap.size w w1 ∧ ConvAt w1 w.heap.size c l ∧ w.heap.size < w1.heap.size := by
  have hsz : (⟨l.toArray⟩ : ByteArray).size = l.length := by simp [ByteArray.size]
  have h := run_bytes_of_string (P := Tryz.prog) w 9 33 5 ⟨l.toArray⟩ Tryz.underlying9 Tryz.underlying33 Tryz.underlying5
  rw [hsz] at h
  have hge := grownCap_ge w l.length 0 5
  generalize grownCap w l.length 0 5 = c at *
  have hrs : (bytesRow ⟨l.toArray⟩ c).size = c := by
    unfold bytesRow
    rw [Array.size_append, Array.size_map, Array.size_replicate, hsz]
    have : (ByteArray.mk l.toArray).data.size = l.length := by simp
    omega
  rw [hrs] at h
  have hb : (w.drew.alloc (.cells (bytesRow ⟨l.toArray⟩ c) 5 (c, c + 1))).heap[w.heap.size]? = some (.cells (bytesRow ⟨l.toArray⟩ c) 5 (c, c + 1)) := heap_alloc_new w.drew _
  refine ⟨c, _, h, (below_drew2 w).alloc (Nat.le_refl _) _, ⟨fun _ => ⟨w.heap.size, 0, rfl, fun i hi => ?_⟩, fun i hi => ?_, fun i hi => ?_, hge⟩, by simp⟩
  · rw [Nat.zero_add, Lib.cell_of_heap hb]
    unfold bytesRow
    rw [Array.getElem?_append_left (by simpa using hi)]
    simp [List.getD_eq_getElem?_getD, List.getElem?_eq_getElem hi]
  · rw [Lib.cell_of_heap hb, Array.getElem?_eq_getElem (by omega)]
    rfl
  · unfold World.frozen?
    simp only [hb]
    simp
    omega

theorem append_conv {ops : Array Oper} {rest : List Oper} {o : Oper} {a : Act} {w : World} {Q : Exit → Act → World → Prop} (hgd : o.guard = none) (s x : Operand)
    (ho : o.op = .call { callee := .builtin .append, args := #[s, x], argTypes := #[33, 33] }) (g cap : Nat) (xs : Bts) (hs : a.eval s = .slice (some ⟨g, 0, none⟩) xs.length cap) (hc : ConvAt w g cap xs)
    (xp : Option Addr) (xb : Bts) (c : Nat) (hx : a.eval x = .slice xp xb.length c) (hbs : Bs w xp xb) (h0 : 0 < xb.length) (h63 : xs.length + xb.length ≤ 4294967296)
    (h : ∀ g' cap' w', Sl w' (fun k => k = g ∨ k = w.heap.size) (.slice (some ⟨g', 0, none⟩) (xs.length + xb.length) cap') (xs ++ xb) → w.grownBy w' (some g) → wpList Tryz.prog ops Q rest (a.put o.dst (.slice (some ⟨g', 0, none⟩) (xs.length + xb.length) cap')) w') : wpList Tryz.prog ops Q (o :: rest) a w := by
  obtain ⟨bb, bo, rfl, hcb⟩ := hbs h0
  have hadd : ∀ (g o i : Nat), (⟨g, o, none⟩ : Addr).add i = ⟨g, o + i, none⟩ := fun g o i => by unfold Addr.add; split <;> simp_all
  have hel : ∀ (ys : Bts) (j : Nat) (u : Value), (ys.map u8V)[j]? = some u → j < ys.length ∧ u = .int .u8 (ys.getD j 0).toNat := fun ys j u hu => by
    have hj : j < ys.length := by simpa using (List.getElem?_eq_some_iff.1 hu).1
    rw [List.getElem?_map, List.getElem?_eq_getElem hj] at hu
    simp only [Option.map_some, Option.some.injEq] at hu
    exact ⟨hj, by rw [← hu, List.getD_eq_getElem?_getD, List.getElem?_eq_getElem hj]; rfl⟩
  obtain ⟨g', cap', w', hr, hcs, hle, hg', hlt, hgr⟩ := run_append_conv w g xs.length cap (xs.map u8V) (xb.map u8V) (by simp) (fun j u hu => by
    obtain ⟨hj, rfl⟩ := hel xs j u hu
    have := hc.at_.at j hj
    rwa [Nat.zero_add] at this) hc.cell hc.free hc.le ⟨bb, bo, none⟩ xb.length c (by simp) (fun j u hu => by
    obtain ⟨hj, rfl⟩ := hel xb j u hu
    rw [hadd]; exact hcb j hj) (by simp [u8V, Value.oneCell']) h0 h63 o.type
  refine wpList_plain hgd fun K hK => ?_
  unfold Oper.wp execOp
  simp only [ho, resolve, invoke, builtin, Sem.run_bind, Sem.run_pure, Result.andThen_ok, List.map_toArray, List.map_cons, List.map_nil, hs, hx, hr]
  refine hK _ _ (h _ _ _ (.inr ⟨g', 0, cap', by rw [List.length_append], by rw [List.length_append]; exact hle, hlt, hg', fun i hi => ?_⟩) hgr)
  rw [Nat.zero_add]
  refine hcs i _ ?_
  rw [← List.map_append, List.getElem?_map, List.getElem?_eq_getElem hi, List.getD_eq_getElem?_getD, List.getElem?_eq_getElem hi]
  rfl

end Go.Proofs.YtjdcjdclipbjhaaGreatDoor
