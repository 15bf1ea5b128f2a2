/-
  Texts of this seat put together: V23, StLaw, StNum.
-/
import Derived.Test.YtihigdcfibjbpaaGreatDoorQ22
import Derived.Test.YtihigdcfibjbpaaGreatDoorQ23
import Derived.Test.YtihigdcfibjbpaaGreatDoorQ17
import Derived.Lib.SplitLaws

/-
  The walk of width's nl, and how it starts. Conditions: its options are read, no operands; they may be; all lines numbered and noughts ahead, or those that are not empty and blanks; lengths.
-/
namespace Go.Proofs.YtihigdcfibjbpaaGreatDoor
open Go.RowKit Go.Shelf Go.Maps

/-- nl's options, read. -/
structure NlOpts (L : List OptA) (t : Bool) (sep : Bts) (wd : Nat) (v by_ : Int) : Prop where
  v_ : numOpt L 118 1 0 2147483647 = (v, true)
  i_ : numOpt L 105 1 0 2147483647 = (by_, true)
  w_ : numOpt L 119 6 1 100 = ((wd : Int), true)
  s_ : (Op.last L 115).getD [9] = sep
  b_ : (Op.last L 98).getD [116] = if t then [116] else [97]
  n_ : (Op.last L 110).getD [114, 110] = if t then [114, 110] else [114, 122]
  vb : 0 ≤ v ∧ v ≤ 2147483647
  wb : wd ≤ 100 ∧ wd + sep.length ≤ 8192

theorem nl_words (L : List OptA) (t : Bool) (sep : Bts) (wd : Nat) (v by_ : Int) (h : NlOpts L t sep wd v by_) :
    wordCs (wordCs (wordCs (((#[strV [116], strV [9], strV [114, 110], .int .i64 0, .int .i64 0, .int .i64 0].setIfInBounds 3 (.int .i64 v)).setIfInBounds 4 (.int .i64 by_)).setIfInBounds 5 (.int .i64 wd)) 1 (Op.last L 115)) 0 (Op.last L 98)) 2 (Op.last L 110) =
      #[strV (if t then [116] else [97]), strV sep, strV (if !t then [114, 122] else [114, 110]), .int .i64 v, .int .i64 by_, .int .i64 wd] := by
  have h1 := h.s_
  have h2 := h.b_
  have h3 : (Op.last L 110).getD [114, 110] = if !t then [114, 122] else [114, 110] := by rw [h.n_]; cases t <;> rfl
  rw [← h1, ← h2, ← h3]
  cases Op.last L 115 <;> cases Op.last L 98 <;> cases Op.last L 110 <;> rfl

theorem may_b (fb : Nat) (s : Bts) (hs : s = [116] ∨ s = [97]) (W : World) (hfb : fb < W.heap.size) : MayAt (W.alloc (.cells #[.string ⟨#[116]⟩, .string ⟨#[97]⟩, .string ⟨#[110]⟩] 9)) fb (.slice (some ⟨W.heap.size, 0, none⟩) 3 3) s := by
  refine .inr ⟨W.heap.size, 2, 3, [⟨#[116]⟩, ⟨#[97]⟩, ⟨#[110]⟩], rfl, rfl, by omega, by omega, by simp, ?_, fun j hj => ?_⟩
  · rcases hs with rfl | rfl <;> decide
  · have : j = 0 ∨ j = 1 ∨ j = 2 := by simp at hj; omega
    rcases this with rfl | rfl | rfl
    · exact (Blk.new W _ _).cell 0 rfl
    · exact (Blk.new W _ _).cell 1 rfl
    · exact (Blk.new W _ _).cell 2 rfl
theorem may_n (fb : Nat) (s : Bts) (hs : s = [114, 110] ∨ s = [114, 122]) (W : World) (hfb : fb < W.heap.size) : MayAt (W.alloc (.cells #[.string ⟨#[108, 110]⟩, .string ⟨#[114, 110]⟩, .string ⟨#[114, 122]⟩] 9)) fb (.slice (some ⟨W.heap.size, 0, none⟩) 3 3) s := by
  refine .inr ⟨W.heap.size, 2, 3, [⟨#[108, 110]⟩, ⟨#[114, 110]⟩, ⟨#[114, 122]⟩], rfl, rfl, by omega, by omega, by simp, ?_, fun j hj => ?_⟩
  · rcases hs with rfl | rfl <;> decide
  · have : j = 0 ∨ j = 1 ∨ j = 2 := by simp at hj; omega
    rcases this with rfl | rfl | rfl
    · exact (Blk.new W _ _).cell 0 rfl
    · exact (Blk.new W _ _).cell 1 rfl
    · exact (Blk.new W _ _).cell 2 rfl

set_option maxRecDepth 100000 in
set_option maxHeartbeats 8000000 in
theorem nl_any (F : Fx) (M : Nat → Prop) (inp a0 : Bts) (rest : List Bts) (ha : F.args = a0 :: rest) (hrest : rest ≠ []) (htot : totL rest ≤ 1000000) (ha0 : a0.length ≤ 1000000) (L : List OptA) (hp : Op.parse [98, 58, 118, 58, 105, 58, 119, 58, 115, 58, 110, 58] rest = some (L, [])) (hLN : L.length ≤ 1000000) (hLl : ∀ o ∈ L, o.2.length ≤ 1000000)
    (t : Bool) (sep : Bts) (wd : Nat) (v by_ : Int) (ho : NlOpts L t sep wd v by_) (hg : Glo F.w0) (hbig : (Wi.runs (nlLine t (!t) sep wd by_) F.line v inp).1.length ≤ 4294967296) (w : World) (h : PrAt w F M inp [] []) :
    Calls Tryz.prog 76 #[.pointer (some ⟨F.p, 0, none⟩)] w fun e w' => MainPost F M a0 (Wi.runs (nlLine t (!t) sep wd by_) F.line v inp) w e w' := by
  have hargs := args_any F M inp [] [] w h
  rw [ha] at hargs
  have hgw : Glo w := hg.from h.fix.old
  have hg8 : 8 ≤ F.w0.heap.size := hg.big
  generalize hR : Wi.runs (nlLine t (!t) sep wd by_) F.line v inp = R at *
  have H := Lib.hid h
  have HG := Lib.hid hgw
  have HG8 := Lib.hid hg8
  have HR := Lib.hid hR
  have HP := Lib.hid hp
  have HO := Lib.hid ho
  have HLL := Lib.hid hLl
  have hr1 : 1 ≤ rest.length := List.length_pos_iff.2 hrest
  clear h hg hgw hR hp hrest hg8 ho hLl
  go_enter Tryz.func76, Tryz.ntmps76
  go_wp2_with fail
  refine hargs.mono ?_
  rintro e w1 ⟨v, rfl, ho1, hb1⟩
  clear hargs
  obtain ⟨g, c, rfl, hcl, -, hgl, hc⟩ := strs_cell ho1 0 (by simp)
  have hss : Ss w1 (some ⟨g, 1, none⟩) rest := fun _ => ⟨g, 1, rfl, fun i hi => by
    have := hc (i + 1) (by simp; omega)
    rw [Nat.add_comm 1 i, this]
    simp⟩
  simp only [List.length_cons] at hcl
  have hpa := parse_any [98, 58, 118, 58, 105, 58, 119, 58, 115, 58, 110, 58] (by decide) rest (some ⟨g, 1, none⟩) (c - 1) (by omega) htot w1 hss
  rw [HP.out] at hpa
  have f1 : (1 : Int) ≤ c := by omega
  have f2 : 1 ≤ c := by omega
  have f3 : ¬ c - 1 = 0 := by omega
  have f4 : ¬ c = 1 := by omega
  have f5 : ¬ c ≤ 1 := by omega
  have HB1 := Lib.hid hb1
  clear ho1 hb1 hc hss
  go_wp2_with fail
  refine hpa.mono ?_
  rintro e w2 ⟨hb2, lv, ov, rfl, hl2, ho2⟩
  obtain ⟨pl, cl, rfl, hlc, hat⟩ := hl2.at_
  obtain ⟨po, co, hov⟩ := strs_shape ho2
  simp only [List.length_nil] at hov
  subst hov
  have hgl2 : Glo w2 := (HG.out.below HB1.out).below hb2
  have HB2 := Lib.hid hb2
  clear hpa hb2 ho2 f1 f2 f3 f4 f5
  obtain ⟨wA, hwA⟩ : ∃ wA, ((w2.alloc (.cells #[.slice pl L.length cl] 230)).alloc (.cells #[.string ⟨#[116]⟩, .string ⟨#[9]⟩, .string ⟨#[114, 110]⟩, .int .i64 0, .int .i64 0, .int .i64 0] 243)).alloc (.cells #[.bool true] 4) = wA := ⟨_, rfl⟩
  have hbA : Below w2.heap.size w2 wA := by rw [← hwA]; exact (((Below.refl _ _).alloc (Nat.le_refl _) _).alloc (by simp only [World.size_alloc]; omega) _).alloc (by simp only [World.size_alloc]; omega) _
  have k1 : Blk wA w2.heap.size #[.slice pl L.length cl] 230 := by rw [← hwA]; exact ((Blk.new _ _ _).alloc _).alloc _
  have k2 : Blk wA (w2.heap.size + 1) #[strV [116], strV [9], strV [114, 110], .int .i64 0, .int .i64 0, .int .i64 0] 243 := by
    rw [← hwA]
    have := (Blk.new (w2.alloc (.cells #[.slice pl L.length cl] 230)) #[.string ⟨#[116]⟩, .string ⟨#[9]⟩, .string ⟨#[114, 110]⟩, .int .i64 0, .int .i64 0, .int .i64 0] 243).alloc (.cells #[.bool true] 4)
    simp only [World.size_alloc] at this
    exact this
  have k3 : Blk wA (w2.heap.size + 1 + 1) #[.bool true] 4 := by
    rw [← hwA]
    have := Blk.new ((w2.alloc (.cells #[.slice pl L.length cl] 230)).alloc (.cells #[.string ⟨#[116]⟩, .string ⟨#[9]⟩, .string ⟨#[114, 110]⟩, .int .i64 0, .int .i64 0, .int .i64 0] 243)) #[.bool true] 4
    simpa only [World.size_alloc] using this
  have h8 := hgl2.big
  have hstA : NlSt wA (w2.heap.size + 1) (w2.heap.size + 1 + 1) w2.heap.size pl cl L #[strV [116], strV [9], strV [114, 110], .int .i64 0, .int .i64 0, .int .i64 0] := by
    refine ⟨k2, k3, k1, hat.below hbA, fun a ha => ?_, hgl2.below hbA, by omega, by omega⟩
    have := (hl2.lt a.block (by rw [ha]; rfl)).2
    omega
  have hl2s : w.heap.size ≤ w2.heap.size := by have := HB1.out.size; have := HB2.out.size; omega
  have hbwA : Below w.heap.size w wA := (HB1.out.trans (HB2.out.mono HB1.out.size)).trans (hbA.mono hl2s)
  have HBWA := Lib.hid hbwA
  obtain ⟨fb, hfb⟩ : ∃ fb, w2.heap.size + 1 = fb := ⟨_, rfl⟩
  obtain ⟨gb, hgb⟩ : ∃ gb, w2.heap.size + 1 + 1 = gb := ⟨_, rfl⟩
  obtain ⟨lb, hlb⟩ : ∃ lb, w2.heap.size = lb := ⟨_, rfl⟩
  have hfg : w.heap.size ≤ fb ∧ w.heap.size ≤ gb := by omega
  rw [hgb, hfb, hlb] at hstA
  have HSTwA := Lib.hid hstA
  have HKwA : Hid (Kept (fun j => j = fb ∨ j = gb) wA wA) := Lib.hid (Kept.refl _ _)
  have HLB := Lib.hid hlb
  have HFB := Lib.hid (And.intro hfb hgb)
  have HFG := Lib.hid hfg
  have HWA := Lib.hid hwA
  have HL2S := Lib.hid hl2s
  clear hl2 hat hgl2 hstA k1 k2 k3 hbA hbwA h8 hfb hgb hlb hfg hwA hl2s
  have hwB := nl1_st L 118 1 0 2147483647 (by decide) (by decide) pl cl hlc hLN HLL.out fb 3 lb gb _ wA HSTwA.out v 0 HO.out.v_ rfl
  go_wp2_with fail
  rw [HWA.out, HFB.out.2, HFB.out.1, HLB.out]
  refine hwB.mono ?_
  rintro e wB ⟨⟨uwB, rfl⟩, hstwB, hkwB⟩
  clear hwB
  have HSTwB := Lib.hid hstwB
  have HKwB := Lib.hid (HKwA.out.trans hkwB)
  clear hstwB hkwB
  have hwC := nl1_st L 105 1 0 2147483647 (by decide) (by decide) pl cl hlc hLN HLL.out fb 4 lb gb _ wB HSTwB.out by_ 0 HO.out.i_ rfl
  go_wp2_with fail
  refine hwC.mono ?_
  rintro e wC ⟨⟨uwC, rfl⟩, hstwC, hkwC⟩
  clear hwC
  have HSTwC := Lib.hid hstwC
  have HKwC := Lib.hid (HKwB.out.trans hkwC)
  clear hstwC hkwC
  have hwD := nl1_st L 119 6 1 100 (by decide) (by decide) pl cl hlc hLN HLL.out fb 5 lb gb _ wC HSTwC.out (wd : Int) 0 HO.out.w_ rfl
  go_wp2_with fail
  refine hwD.mono ?_
  rintro e wD ⟨⟨uwD, rfl⟩, hstwD, hkwD⟩
  clear hwD
  have HSTwD := Lib.hid hstwD
  have HKwD := Lib.hid (HKwC.out.trans hkwD)
  clear hstwD hkwD
  have hwE := nl2_st L 115 (.slice none 0 0) pl cl hlc hLN fb 1 lb gb _ wD HSTwD.out [9] rfl (fun _ _ => .inl rfl)
  go_wp2_with fail
  refine hwE.mono ?_
  rintro e wE ⟨⟨uwE, rfl⟩, hstwE, hkwE⟩
  clear hwE
  have hwF := nl2_st L 98 (.slice (some ⟨wE.heap.size, 0, none⟩) 3 3) pl cl hlc hLN fb 0 lb gb _ _ (hstwE.below ((Below.refl _ _).alloc (Nat.le_refl _) (.cells #[.string ⟨#[116]⟩, .string ⟨#[97]⟩, .string ⟨#[110]⟩] 9))) [116] (by cases Op.last L 115 <;> rfl) (fun s hs => may_b fb s (by
    have := HO.out.b_
    rw [hs, Option.getD_some] at this
    cases t
    · exact .inr this
    · exact .inl this) wE hstwE.form.lt)
  have HKwE := Lib.hid (HKwD.out.trans hkwE)
  clear hstwE hkwE
  go_wp2_with fail
  refine hwF.mono ?_
  rintro e wF ⟨⟨uwF, rfl⟩, hstwF, hkwF⟩
  clear hwF
  have hwG := nl2_st L 110 (.slice (some ⟨wF.heap.size, 0, none⟩) 3 3) pl cl hlc hLN fb 2 lb gb _ _ (hstwF.below ((Below.refl _ _).alloc (Nat.le_refl _) (.cells #[.string ⟨#[108, 110]⟩, .string ⟨#[114, 110]⟩, .string ⟨#[114, 122]⟩] 9))) [114, 110] (by cases Op.last L 115 <;> cases Op.last L 98 <;> rfl) (fun s hs => may_n fb s (by
    have := HO.out.n_
    rw [hs, Option.getD_some] at this
    cases t
    · exact .inr this
    · exact .inl this) wF hstwF.form.lt)
  have HKwF := Lib.hid (HKwE.out.trans ((Kept.of_below ((Below.refl _ _).alloc (Nat.le_refl _) _)).trans hkwF))
  clear hstwF hkwF
  go_wp2_with fail
  refine hwG.mono ?_
  rintro e wG ⟨⟨uwG, rfl⟩, hstwG, hkwG⟩
  clear hwG
  rw [nl_words L t sep wd v by_ HO.out] at hstwG
  have hkG := HKwF.out.trans ((Kept.of_below ((Below.refl _ _).alloc (Nat.le_refl _) _)).trans hkwG)
  have hbA : Below w.heap.size w wG := HBWA.out.trans (below_of_kept hkG (by rintro k (rfl | rfl); exact HFG.out.1; exact HFG.out.2) HBWA.out.size)
  have hgood := hstwG.good.cell 0 (v := .bool true) rfl
  have hpr := H.out.below hbA
  have hform : FormSt fb t (!t) sep wd by_ v wG := ⟨hstwG.glo, by have := HO.out.vb; omega, by have := HO.out.vb; omega, hstwG.big.1, hstwG.form⟩
  have hent : ∀ (args : Array Value) (w : World), (callFunc 124 args).run Tryz.prog w = .ok (.enter 124 args) w := enters_of Tryz.func124 (by kernel_rfl) rfl
  have hrn := runs_any 124 hent _ _ _ _ _ _ F (nl_filt HG8.out fb t sep wd HO.out.wb.1 HO.out.wb.2 by_) M inp [] [] a0 rest ha ha0 (by simp) v po co wG hpr hform (fun j hj => by
    have := H.out.n0
    have := HFG.out.1
    rw [hj]
    refine ⟨by omega, fun hm => ?_⟩
    have := H.out.lt fb hm
    omega) (fun _ _ => trivial) (by rw [HR.out, List.nil_append]; exact hbig)
  rw [HR.out] at hrn
  have HBW := Lib.hid hbA
  clear hkwG hkG hbA hpr hform hent hstwG
  go_wp2_with fail
  refine hrn.mono ?_
  rintro e w7 ⟨inp', M', rfl, hp7, hk7, hm7⟩
  clear hrn
  have hfin : MainPost F M a0 R w (.returned (.int .i64 (if R.2 then 0 else 1))) w7 := by
    refine ⟨inp', M', rfl, by simpa using hp7, ⟨(Kept.of_below HBW.out).trans' hk7 fun k hk e => ?_, fun j hj => ?_⟩⟩
    · have := HFG.out.1
      rcases e with e | e
      · exact e
      · omega
    · rcases hm7 j hj with e | e
      · exact .inl e
      · have := HBW.out.size; exact .inr (by omega)
  generalize (if R.2 then (0 : Int) else 1) = st at *
  have HFIN := Lib.hid hfin
  clear hp7 hk7 hm7 hfin
  go_wp2_with fail
  go_ret
  exact HFIN.out

theorem starts_nl (w1 : World) (hg : Glo w1) (rest : List Bts) (hrest : rest ≠ []) (htot : totL rest ≤ 1000000) (L : List OptA) (hp : Op.parse [98, 58, 118, 58, 105, 58, 119, 58, 115, 58, 110, 58] rest = some (L, [])) (hLN : L.length ≤ 1000000) (hLl : ∀ o ∈ L, o.2.length ≤ 1000000)
    (t : Bool) (sep : Bts) (wd : Nat) (v by_ : Int) (ho : NlOpts L t sep wd v by_) (inp : Bts) (buf line run : Nat) (hbig : (Wi.runs (nlLine t (!t) sep wd by_) line v inp).1.length ≤ 4294967296) :
    Starts w1 43 ([110, 108] :: rest) buf line run inp (EndQ [110, 108] (Wi.runs (nlLine t (!t) sep wd by_) line v inp)) := by
  intro F M ha _ hline _ hw0
  subst hw0
  subst hline
  refine ⟨76, enters_of Tryz.func76 (by kernel_rfl) rfl, fun W hW => ?_, fun W hW => ?_⟩
  · exact start_nl F M inp rest ha W hW
  · exact (nl_any F M inp _ rest ha hrest htot (by decide) L hp hLN hLl t sep wd v by_ ho hg hbig W hW).mono fun e w' h => EndQ.of h

end Go.Proofs.YtihigdcfibjbpaaGreatDoor

/-
  Lists of tab stops, as plain functions. No program in sight. No condition.
-/
namespace Go.Proofs.YtihigdcfibjbpaaGreatDoor.Wi
open Go

/-- What stands between stops. -/
def sepB (c : UInt8) : Bool := c == 44 || c == 32 || c == 9
/-- The parts between such bytes. -/
def partsBy (f : UInt8 → Bool) : List UInt8 → List (List UInt8)
  | [] => [[]]
  | c :: r => if f c = true then [] :: partsBy f r else (c :: (partsBy f r).headD []) :: (partsBy f r).tail
theorem partsBy_ne (f : UInt8 → Bool) (s : List UInt8) : partsBy f s ≠ [] := by
  cases s with
  | nil => simp [partsBy]
  | cons c r => rw [partsBy]; split <;> simp
theorem partsBy_head (f : UInt8 → Bool) (s : List UInt8) : (partsBy f s).headD [] :: (partsBy f s).tail = partsBy f s := by
  have h := partsBy_ne f s
  cases hp : partsBy f s with
  | nil => exact absurd hp h
  | cons a b => rfl
theorem partsBy_hit (f : UInt8 → Bool) (c : UInt8) (r : List UInt8) (hc : f c = true) : ∀ (p : List UInt8), (∀ x ∈ p, f x = false) → partsBy f (p ++ c :: r) = p :: partsBy f r := by
  intro p
  induction p with
  | nil => intro _; rw [List.nil_append, partsBy, if_pos hc]
  | cons d t ih =>
    intro h
    rw [List.cons_append, partsBy, if_neg (by rw [h d (by simp)]; decide), ih fun x hx => h x (by simp [hx])]
    rfl
theorem partsBy_miss (f : UInt8 → Bool) : ∀ (p : List UInt8), (∀ x ∈ p, f x = false) → partsBy f p = [p] := by
  intro p
  induction p with
  | nil => intro _; rfl
  | cons d t ih =>
    intro h
    rw [partsBy, if_neg (by rw [h d (by simp)]; decide), ih fun x hx => h x (by simp [hx])]
    rfl

/-- Blanks may stand for commas. -/
theorem partsBy_map (g : UInt8 → UInt8) (hg : ∀ c, g c = if c = 32 ∨ c = 9 then 44 else c) : ∀ (s : List UInt8), partsBy (fun x => x == 44) (s.map g) = partsBy sepB s := by
  intro s
  induction s with
  | nil => rfl
  | cons c r ih =>
    rw [List.map_cons, partsBy, partsBy, ih]
    by_cases hc : sepB c = true
    · have h : (g c == 44) = true := by
        rw [hg]
        simp only [sepB, Bool.or_eq_true, beq_iff_eq] at hc
        rcases hc with (rfl | rfl) | rfl <;> decide
      rw [if_pos hc, if_pos h]
    · have hc2 := hc
      simp only [sepB, Bool.or_eq_true, beq_iff_eq, not_or] at hc2
      have e : g c = c := by rw [hg, if_neg]; simp [hc2]
      rw [if_neg hc, e, if_neg (by simp [hc2])]

/-- strings.Split, in these terms. -/
theorem splitB_parts (c : UInt8) : ∀ (k : Nat) (s : ByteArray), s.size ≤ k → (Lib.splitB ⟨#[c]⟩ 0 (Lib.countB s ⟨#[c]⟩) s).map (fun x => x.data.toList) = partsBy (fun x => x == c) s.data.toList := by
  intro k
  induction k with
  | zero =>
    intro s hk
    have h0 : s.data.toList = [] := List.eq_nil_of_length_eq_zero (by have := Lib.size_eq s; omega)
    rcases Lib.indexB_cases s ⟨#[c]⟩ with h | ⟨i, -, hi⟩
    · rw [Lib.countB_miss _ _ h, Lib.splitB_zero, h0]; simp [h0, partsBy]
    · have : (⟨#[c]⟩ : ByteArray).size = 1 := rfl
      omega
  | succ k ih =>
    intro s hk
    have hsz : (⟨#[c]⟩ : ByteArray).size = 1 := rfl
    have hix : Lib.indexB s ⟨#[c]⟩ = Lib.indexByte s.data.toList c := Lib.index_one s.data.toList c
    rcases Lib.indexB_cases s ⟨#[c]⟩ with h | ⟨i, h, hi⟩
    · rw [Lib.countB_miss _ _ h, Lib.splitB_zero, partsBy_miss]
      · rfl
      · intro x hx
        obtain ⟨j, hj⟩ := List.mem_iff_getElem?.1 hx
        have := Lib.indexByte_none (hix ▸ h) j
        rw [hj] at this
        simpa using fun e => this (by rw [e])
    · rw [Lib.countB_hit _ _ i (by rw [hsz]; exact Nat.le_refl _) h, Nat.add_comm, Lib.splitB_hit _ _ _ _ _ h, List.map_cons]
      rw [ih _ (by simp [ByteArray.size_extract]; omega)]
      obtain ⟨h1, h2⟩ := Lib.indexByte_some (hix ▸ h)
      have hlt : i < s.data.toList.length := by have := Lib.size_eq s; omega
      have es : s.data.toList = s.data.toList.take i ++ c :: s.data.toList.drop (i + 1) := by
        have e1 : s.data.toList[i] = c := by rw [List.getElem?_eq_getElem hlt] at h1; exact Option.some.inj h1
        rw [← e1, ← List.drop_eq_getElem_cons hlt, List.take_append_drop]
      conv => rhs; rw [es]
      rw [partsBy_hit _ c _ (by simp)]
      · rw [Lib.extract_from_zero, Nat.add_zero, Lib.extract_to_end, hsz]
      · intro x hx
        obtain ⟨j, hj⟩ := List.mem_iff_getElem?.1 hx
        rw [List.getElem?_take] at hj
        split at hj
        · rename_i hji
          have := h2 j hji
          rw [hj] at this
          simpa using fun e => this (by rw [e])
        · cases hj

/-- A list of stops is read. -/
def stopsGo (most : Int) : List Int → List (List UInt8) → Option (List Int)
  | out, [] => some out
  | out, p :: ps => match Ord.number p most with
    | none => none
    | some n => if n < 1 ∨ (out ≠ [] ∧ n ≤ out.getLastD 0) then none else stopsGo most (out ++ [n]) ps
theorem stopsGo_bad (most : Int) (out : List Int) (p : List UInt8) (ps : List (List UInt8)) (h : Ord.number p most = none) : stopsGo most out (p :: ps) = none := by
  rw [stopsGo, h]
theorem stopsGo_low (most : Int) (out : List Int) (p : List UInt8) (ps : List (List UInt8)) (n : Int) (h : Ord.number p most = some n) (h2 : n < 1 ∨ (out ≠ [] ∧ n ≤ out.getLastD 0)) : stopsGo most out (p :: ps) = none := by
  rw [stopsGo, h]
  simp only
  rw [if_pos h2]
theorem stopsGo_good (most : Int) (out : List Int) (p : List UInt8) (ps : List (List UInt8)) (n : Int) (h : Ord.number p most = some n) (h1 : 1 ≤ n) (h2 : out = [] ∨ out.getLastD 0 < n) : stopsGo most out (p :: ps) = stopsGo most (out ++ [n]) ps := by
  rw [stopsGo, h]
  simp only
  rw [if_neg]
  rintro (h3 | ⟨h3, h4⟩)
  · omega
  · rcases h2 with h2 | h2
    · exact h3 h2
    · omega
def stopsOf (most : Int) (s : List UInt8) : Option (List Int) := stopsGo most [] (partsBy sepB s)

/-- The reference's loop: at a byte between stops, or at the end. -/
theorem stops_at (s : List UInt8) (a i : Nat) (h : a ≤ i) (hi : i < s.length) (hn : ∀ k, a ≤ k → k < i → sepB (s.getD k 0) = false) (hs : sepB (s.getD i 0) = true) : partsBy sepB (s.drop a) = (s.drop a).take (i - a) :: partsBy sepB (s.drop (i + 1)) := by
  have e1 : s.drop a = (s.drop a).take (i - a) ++ s.drop i := by
    conv => lhs; rw [← List.take_append_drop (i - a) (s.drop a)]
    rw [List.drop_drop]
    congr 2
    omega
  have e2 : s.drop i = s.getD i 0 :: s.drop (i + 1) := by
    rw [List.drop_eq_getElem_cons hi, List.getD_eq_getElem?_getD, List.getElem?_eq_getElem hi]; rfl
  conv => lhs; rw [e1, e2]
  rw [partsBy_hit _ _ _ hs]
  intro x hx
  obtain ⟨j, hj⟩ := List.mem_iff_getElem?.1 hx
  rw [List.getElem?_take] at hj
  split at hj
  · rename_i hji
    rw [List.getElem?_drop] at hj
    have := hn (a + j) (by omega) (by omega)
    rw [List.getD_eq_getElem?_getD, hj] at this
    exact this
  · cases hj
theorem stops_end (s : List UInt8) (a : Nat) (hn : ∀ k, a ≤ k → k < s.length → sepB (s.getD k 0) = false) : partsBy sepB (s.drop a) = [s.drop a] := by
  refine partsBy_miss _ _ fun x hx => ?_
  obtain ⟨j, hj⟩ := List.mem_iff_getElem?.1 hx
  rw [List.getElem?_drop] at hj
  have hlt := (List.getElem?_eq_some_iff.1 hj).1
  have := hn (a + j) (by omega) hlt
  rw [List.getD_eq_getElem?_getD, hj] at this
  exact this

/-- One number alone. -/
theorem stopsOf_one (most : Int) (s : List UInt8) (hs : ∀ c ∈ s, Ord.digit c = true) (n : Int) (hn : Ord.number s most = some n) (h1 : 1 ≤ n) : stopsOf most s = some [n] := by
  unfold stopsOf
  rw [partsBy_miss _ s fun x hx => by
    have := Ord.digit_nat (hs x hx)
    unfold sepB
    simp only [Bool.or_eq_false_iff, beq_eq_false_iff_ne]
    refine ⟨⟨?_, ?_⟩, ?_⟩ <;> rintro rfl <;> revert this <;> decide]
  rw [stopsGo_good most [] s [] n hn h1 (.inl rfl)]
  rfl

end Go.Proofs.YtihigdcfibjbpaaGreatDoor.Wi

/-
  The walks of the document's Based and Number, to base ten, at most MaxNum. Condition: lengths.
-/
namespace Go.Proofs.YtihigdcfibjbpaaGreatDoor
open Go.RowKit Go.Shelf Go.Maps

theorem ordv_append (a b : Ord.Bytes) : Ord.value (a ++ b) = b.foldl (fun n c => n * 10 + (c.toNat - 48)) (Ord.value a) := by
  unfold Ord.value
  rw [List.foldl_append]
theorem ordv_snoc (a : Ord.Bytes) (c : UInt8) : Ord.value (a ++ [c]) = Ord.value a * 10 + (c.toNat - 48) := by
  rw [ordv_append]
  rfl
theorem ordv_take (s : Ord.Bytes) (i : Nat) : Ord.value (s.take i) ≤ Ord.value s := by
  conv => rhs; rw [← List.take_append_drop i s, ordv_append]
  exact Ord.valueFrom_ge _ _

set_option maxHeartbeats 6400000 in
set_option maxRecDepth 100000 in
theorem rbased_any (d : Ord.Bytes) (hl : d.length < 1073741824) (w : World) :
    Calls Tryz.prog 31 #[.string ⟨d.toArray⟩, .int .i64 2147483647, .int .i64 10] w fun e w' => e = .returned (numVal d 2147483647) ∧ w' = w := by
  have HOK : Hid (d ≠ [] → d.all Ord.digit = true → Ord.value d ≤ 2147483647 → numVal d 2147483647 = .tuple #[.int .i64 (Ord.value d : Nat), .bool true]) := fun h1 h2 h3 => numVal_some h1 h2 (by omega)
  have HBAD : Hid (d = [] ∨ d.all Ord.digit = false ∨ 2147483647 < Ord.value d → numVal d 2147483647 = .tuple #[.int .i64 0, .bool false]) := fun h => numVal_none (by
    rcases h with h | h | h
    · exact .inl h
    · exact .inr (.inl h)
    · exact .inr (.inr (by omega)))
  obtain ⟨BV, hBV⟩ : ∃ v, numVal d 2147483647 = v := ⟨_, rfl⟩
  rw [hBV] at HOK HBAD ⊢
  clear hBV
  go_enter Tryz.func31, Tryz.ntmps31
  by_cases h0 : d = []
  · have hz : (d.length : Int) = 0 := by rw [h0]; rfl
    have HB := HBAD.out (.inl h0)
    have HB2 := Lib.hid HB
    clear HB HOK HBAD h0
    go_wp2_with fail
    go_ret2
    exact ⟨by rw [HB2.out]; rfl, rfl⟩
  · have hpos : 0 < d.length := List.length_pos_iff.2 h0
    have hne : ¬ ((d.length : Int) = 0) := by omega
    have HN := Lib.hid h0
    clear h0
    go_wp2_with fail
    go_loop [8, 9] (fun x8 x9 => ∃ i n : Nat, i ≤ d.length ∧ x9 = .int .i64 i ∧ x8 = .int .i64 n ∧ n ≤ 2147483647 ∧ Hid (Ord.value (d.take i) = n) ∧ Hid ((d.take i).all Ord.digit = true)) (fun _ x9 => d.length - (intOf x9).toNat)
    case atStart => exact ⟨0, 0, Nat.zero_le _, rfl, rfl, by omega, rfl, rfl⟩
    case round =>
      obtain ⟨i, n, hi, rfl, rfl, hn, HV, HD⟩ := hrel
      by_cases hlt : i < d.length
      · have hgd : d.getD i 0 = d[i] := by rw [List.getD_eq_getElem?_getD, List.getElem?_eq_getElem hlt]; rfl
        have HV2 : Hid (Ord.value (d.take (i + 1)) = n * 10 + (d[i].toNat - 48)) := by
          show _ = _
          rw [List.take_succ_eq_append_getElem hlt, ordv_snoc, HV.out]
        have HT := Lib.hid (ordv_take d (i + 1))
        have HF : Hid (Ord.digit d[i] = false → d.all Ord.digit = false) := fun h => all_false_at d i hlt (by rw [hgd]; exact h)
        have HA : Hid (Ord.digit d[i] = true → (d.take (i + 1)).all Ord.digit = true) := fun h => by rw [all_take d i hlt, HD.out, hgd, h]; rfl
        clear hgd HD
        obtain ⟨x, hx, i0⟩ : ∃ x, d[i] = x ∧ ∀ h, (⟨d.toArray⟩ : ByteArray)[i]'h = x := ⟨d[i], rfl, fun _ => rfl⟩
        rw [hx] at HV2 HF HA
        clear hx
        have hb := u8_bd x
        have hwx : wrap64 (x.toNat : Int) = (x.toNat : Int) := by simp [wrap64]; omega
        by_cases hlo : (x.toNat : Int) < 48
        · have HB2 := Lib.hid (HBAD.out (.inr (.inl (HF.out (digit_no (.inl hlo))))))
          clear HOK HBAD HV HV2 HT HF HA
          go_wp2_with fail
          go_ret2
          exact ⟨by rw [HB2.out]; rfl, rfl⟩
        · by_cases hhi : (58 : Int) ≤ (x.toNat : Int)
          · have HB2 := Lib.hid (HBAD.out (.inr (.inl (HF.out (digit_no (.inr (by omega)))))))
            clear HOK HBAD HV HV2 HT HF HA
            go_wp2_with fail
            go_ret2
            exact ⟨by rw [HB2.out]; rfl, rfl⟩
          · have hdg := digit_yes (c := x) (by omega) (by omega)
            have HDG := Lib.hid hdg
            clear hdg
            have hw : ((x.toNat : Int) - 48) % 256 = (x.toNat : Int) - 48 := by omega
            by_cases hok : n * 10 + (x.toNat - 48) ≤ 2147483647
            · have k1 : ¬ ((214748364 : Int) < (n : Int)) := by omega
              have k2 : ¬ ((2147483647 : Int) - ((x.toNat : Int) - 48) < (n : Int) * 10) := by omega
              go_wp2_with fail
              refine ⟨⟨i + 1, n * 10 + (x.toNat - 48), by omega, by go_num, by go_num, hok, HV2.out, HA.out HDG.out⟩, ?_⟩
              show d.length - ((i : Int) + 1).toNat < d.length - (i : Int).toNat
              omega
            · have HB := HBAD.out (.inr (.inr (by have := HT.out; have := HV2.out; omega)))
              have HB2 := Lib.hid HB
              clear HB HOK HBAD HV HV2 HT HF HA
              by_cases h25 : (214748364 : Int) < (n : Int)
              · have k0 := h25
                go_wp2_with fail
                go_loop [11] (fun x11 => ∃ k : Nat, k ≤ d.length ∧ x11 = .int .i64 k) (fun x11 => d.length - (intOf x11).toNat)
                case atStart => exact ⟨i, hi, rfl⟩
                case round =>
                  obtain ⟨k, hk, rfl⟩ := hrel
                  by_cases hlt2 : k < d.length
                  · obtain ⟨y, hy, i1⟩ : ∃ y, d[k] = y ∧ ∀ h, (⟨d.toArray⟩ : ByteArray)[k]'h = y := ⟨d[k], rfl, fun _ => rfl⟩
                    clear hy
                    have hb2 := u8_bd y
                    have hwy : wrap64 (y.toNat : Int) = (y.toNat : Int) := by simp [wrap64]; omega
                    by_cases g3 : (y.toNat : Int) < 48
                    · go_wp2_with fail
                      go_ret2
                      exact ⟨by rw [HB2.out]; rfl, rfl⟩
                    · by_cases g4 : (58 : Int) ≤ (y.toNat : Int)
                      · go_wp2_with fail
                        go_ret2
                        exact ⟨by rw [HB2.out]; rfl, rfl⟩
                      · go_wp2_with fail
                        refine ⟨⟨k + 1, by omega, by go_num⟩, ?_⟩
                        show d.length - ((k : Int) + 1).toNat < d.length - (k : Int).toNat
                        omega
                  · obtain rfl : k = d.length := by omega
                    go_wp2_with fail
                    go_ret2
                    exact ⟨by rw [HB2.out]; rfl, rfl⟩
              · have k2 : (2147483647 : Int) - ((x.toNat : Int) - 48) < (n : Int) * 10 := by omega
                go_wp2_with fail
                go_loop [11] (fun x11 => ∃ k : Nat, k ≤ d.length ∧ x11 = .int .i64 k) (fun x11 => d.length - (intOf x11).toNat)
                case atStart => exact ⟨i, hi, rfl⟩
                case round =>
                  obtain ⟨k, hk, rfl⟩ := hrel
                  by_cases hlt2 : k < d.length
                  · obtain ⟨y, hy, i1⟩ : ∃ y, d[k] = y ∧ ∀ h, (⟨d.toArray⟩ : ByteArray)[k]'h = y := ⟨d[k], rfl, fun _ => rfl⟩
                    clear hy
                    have hb2 := u8_bd y
                    have hwy : wrap64 (y.toNat : Int) = (y.toNat : Int) := by simp [wrap64]; omega
                    by_cases g3 : (y.toNat : Int) < 48
                    · go_wp2_with fail
                      go_ret2
                      exact ⟨by rw [HB2.out]; rfl, rfl⟩
                    · by_cases g4 : (58 : Int) ≤ (y.toNat : Int)
                      · go_wp2_with fail
                        go_ret2
                        exact ⟨by rw [HB2.out]; rfl, rfl⟩
                      · go_wp2_with fail
                        refine ⟨⟨k + 1, by omega, by go_num⟩, ?_⟩
                        show d.length - ((k : Int) + 1).toNat < d.length - (k : Int).toNat
                        omega
                  · obtain rfl : k = d.length := by omega
                    go_wp2_with fail
                    go_ret2
                    exact ⟨by rw [HB2.out]; rfl, rfl⟩
      · obtain rfl : i = d.length := by omega
        rw [List.take_of_length_le (Nat.le_refl _)] at HV HD
        have HB := HOK.out HN.out HD.out (by rw [HV.out]; exact hn)
        rw [HV.out] at HB
        have HB2 := Lib.hid HB
        clear HB HOK HBAD HV HD
        have k1 : (n : Int) ≤ 2147483647 := by omega
        go_wp2_with fail
        go_ret2
        exact ⟨by rw [HB2.out]; rfl, rfl⟩

set_option maxRecDepth 100000 in
theorem rnum_any (d : Ord.Bytes) (hl : d.length < 1073741824) (w : World) :
    Calls Tryz.prog 21 #[.string ⟨d.toArray⟩, .int .i64 2147483647] w fun e w' => e = .returned (numVal d 2147483647) ∧ w' = w := by
  have hb := rbased_any d hl w
  have hx : ∃ n b, numVal d 2147483647 = .tuple #[.int .i64 n, .bool b] := by
    unfold numVal; split <;> exact ⟨_, _, rfl⟩
  obtain ⟨n, b, hx⟩ := hx
  rw [hx] at hb ⊢
  clear hx
  go_enter Tryz.func21, Tryz.ntmps21
  go_wp2_with fail
  refine hb.mono ?_
  rintro e w' ⟨rfl, rfl⟩
  go_wp2_with fail
  go_ret2
  exact ⟨rfl, rfl⟩

end Go.Proofs.YtihigdcfibjbpaaGreatDoor
