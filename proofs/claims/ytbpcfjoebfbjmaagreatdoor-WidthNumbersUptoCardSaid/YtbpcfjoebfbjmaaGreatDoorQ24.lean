/-
  Texts of this seat put together: V23, StLaw, StNum, StRef, Rp1, Rp2.
-/
import Derived.Test.YtbpcfjoebfbjmaaGreatDoorQ22
import Derived.Test.YtbpcfjoebfbjmaaGreatDoorQ23
import Derived.Test.YtbpcfjoebfbjmaaGreatDoorQ17
import Derived.Lib.SplitLaws
import Derived.Test.YtbpcfjoebfbjmaaGreatDoorQ6
import Derived.Test.YtbpcfjoebfbjmaaGreatDoorQ5
import Derived.Test.YtbpcfjoebfbjmaaGreatDoorQ3
import Derived.Tactics
import Derived.Tactics2
import Derived.Defers
import Derived.Laws.Pointers
import Derived.Laws.LoneSync
import Derived.RegionTactic
import Derived.RegionCalls
import Derived.ChangeAlike
import Derived.Laws.EntriesVeiled
import Derived.Test.YtbpcfjoebfbjmaaGreatDoorQ11
import Derived.Lib.Small
import Derived.Deep.MidRow

/-
  The walk of width's nl, and how it starts. Conditions: its options are read, no operands; they may be; all lines numbered and noughts ahead, or those that are not empty and blanks; lengths.
-/
namespace Go.Proofs.YtbpcfjoebfbjmaaGreatDoor
open Go.RowKit Go.Shelf Go.Maps

/-- nl's options, read. -/
structure NlOpts (L : List OptA) (t : Bool) (sep : Bts) (wd : Nat) (v by_ : Int) : Prop where
  v_ : numOpt L 118 1 0 2147483647 = (v, true)
  i_ : numOpt L 105 1 0 2147483647 = (by_, true)
  w_ : numOpt L 119 6 1 100 = ((wd : Int), true)
  s_ : (Op.last L 115).getD [9] = sep
  b_ : (Op.last L 98).getD [116] = if t then [116] else [97]
  n_ : (Op.last L 110).getD [114, 110] = if t then [114, 110] else [114, 122]
  vb : 0 ≤ v ∧ v ≤ 2147483647
  wb : wd ≤ 100 ∧ wd + sep.length ≤ 8192

theorem nl_words (L : List OptA) (t : Bool) (sep : Bts) (wd : Nat) (v by_ : Int) (h : NlOpts L t sep wd v by_) :
    wordCs (wordCs (wordCs (((#[strV [116], strV [9], strV [114, 110], .int .i64 0, .int .i64 0, .int .i64 0].setIfInBounds 3 (.int .i64 v)).setIfInBounds 4 (.int .i64 by_)).setIfInBounds 5 (.int .i64 wd)) 1 (Op.last L 115)) 0 (Op.last L 98)) 2 (Op.last L 110) =
      #[strV (if t then [116] else [97]), strV sep, strV (if !t then [114, 122] else [114, 110]), .int .i64 v, .int .i64 by_, .int .i64 wd] := by
  have h1 := h.s_
  have h2 := h.b_
  have h3 : (Op.last L 110).getD [114, 110] = if !t then [114, 122] else [114, 110] := by rw [h.n_]; cases t <;> rfl
  rw [← h1, ← h2, ← h3]
  cases Op.last L 115 <;> cases Op.last L 98 <;> cases Op.last L 110 <;> rfl

theorem may_b (fb : Nat) (s : Bts) (hs : s = [116] ∨ s = [97]) (W : World) (hfb : fb < W.heap.size) : MayAt (W.alloc (.cells #[.string ⟨#[116]⟩, .string ⟨#[97]⟩, .string ⟨#[110]⟩] 9)) fb (.slice (some ⟨W.heap.size, 0, none⟩) 3 3) s := by
  refine .inr ⟨W.heap.size, 2, 3, [⟨#[116]⟩, ⟨#[97]⟩, ⟨#[110]⟩], rfl, rfl, by omega, by omega, by simp, ?_, fun j hj => ?_⟩
  · rcases hs with rfl | rfl <;> decide
  · have : j = 0 ∨ j = 1 ∨ j = 2 := by simp at hj; omega
    rcases this with rfl | rfl | rfl
    · exact (Blk.new W _ _).cell 0 rfl
    · exact (Blk.new W _ _).cell 1 rfl
    · exact (Blk.new W _ _).cell 2 rfl
theorem may_n (fb : Nat) (s : Bts) (hs : s = [114, 110] ∨ s = [114, 122]) (W : World) (hfb : fb < W.heap.size) : MayAt (W.alloc (.cells #[.string ⟨#[108, 110]⟩, .string ⟨#[114, 110]⟩, .string ⟨#[114, 122]⟩] 9)) fb (.slice (some ⟨W.heap.size, 0, none⟩) 3 3) s := by
  refine .inr ⟨W.heap.size, 2, 3, [⟨#[108, 110]⟩, ⟨#[114, 110]⟩, ⟨#[114, 122]⟩], rfl, rfl, by omega, by omega, by simp, ?_, fun j hj => ?_⟩
  · rcases hs with rfl | rfl <;> decide
  · have : j = 0 ∨ j = 1 ∨ j = 2 := by simp at hj; omega
    rcases this with rfl | rfl | rfl
    · exact (Blk.new W _ _).cell 0 rfl
    · exact (Blk.new W _ _).cell 1 rfl
    · exact (Blk.new W _ _).cell 2 rfl

set_option maxRecDepth 100000 in
set_option maxHeartbeats 8000000 in
theorem nl_any (F : Fx) (M : Nat → Prop) (inp a0 : Bts) (rest : List Bts) (ha : F.args = a0 :: rest) (hrest : rest ≠ []) (htot : totL rest ≤ 1000000) (ha0 : a0.length ≤ 1000000) (L : List OptA) (hp : Op.parse [98, 58, 118, 58, 105, 58, 119, 58, 115, 58, 110, 58] rest = some (L, [])) (hLN : L.length ≤ 1000000) (hLl : ∀ o ∈ L, o.2.length ≤ 1000000)
    (t : Bool) (sep : Bts) (wd : Nat) (v by_ : Int) (ho : NlOpts L t sep wd v by_) (hg : Glo F.w0) (hbig : (Wi.runs (nlLine t (!t) sep wd by_) F.line v inp).1.length ≤ 4294967296) (w : World) (h : PrAt w F M inp [] []) :
    Calls Tryz.prog 51 #[.pointer (some ⟨F.p, 0, none⟩)] w fun e w' => MainPost F M a0 (Wi.runs (nlLine t (!t) sep wd by_) F.line v inp) w e w' := by
  have hargs := args_any F M inp [] [] w h
  rw [ha] at hargs
  have hgw : Glo w := hg.from h.fix.old
  have hg8 : 8 ≤ F.w0.heap.size := hg.big
  generalize hR : Wi.runs (nlLine t (!t) sep wd by_) F.line v inp = R at *
  have H := Lib.hid h
  have HG := Lib.hid hgw
  have HG8 := Lib.hid hg8
  have HR := Lib.hid hR
  have HP := Lib.hid hp
  have HO := Lib.hid ho
  have HLL := Lib.hid hLl
  have hr1 : 1 ≤ rest.length := List.length_pos_iff.2 hrest
  clear h hg hgw hR hp hrest hg8 ho hLl
  go_enter Tryz.func51, Tryz.ntmps51
  go_wp2_with fail
  refine hargs.mono ?_
  rintro e w1 ⟨v, rfl, ho1, hb1⟩
  clear hargs
  obtain ⟨g, c, rfl, hcl, -, hgl, hc⟩ := strs_cell ho1 0 (by simp)
  have hss : Ss w1 (some ⟨g, 1, none⟩) rest := fun _ => ⟨g, 1, rfl, fun i hi => by
    have := hc (i + 1) (by simp; omega)
    rw [Nat.add_comm 1 i, this]
    simp⟩
  simp only [List.length_cons] at hcl
  have hpa := parse_any [98, 58, 118, 58, 105, 58, 119, 58, 115, 58, 110, 58] (by decide) rest (some ⟨g, 1, none⟩) (c - 1) (by omega) htot w1 hss
  rw [HP.out] at hpa
  have f1 : (1 : Int) ≤ c := by omega
  have f2 : 1 ≤ c := by omega
  have f3 : ¬ c - 1 = 0 := by omega
  have f4 : ¬ c = 1 := by omega
  have f5 : ¬ c ≤ 1 := by omega
  have HB1 := Lib.hid hb1
  clear ho1 hb1 hc hss
  go_wp2_with fail
  refine hpa.mono ?_
  rintro e w2 ⟨hb2, lv, ov, rfl, hl2, ho2⟩
  obtain ⟨pl, cl, rfl, hlc, hat⟩ := hl2.at_
  obtain ⟨po, co, hov⟩ := strs_shape ho2
  simp only [List.length_nil] at hov
  subst hov
  have hgl2 : Glo w2 := (HG.out.below HB1.out).below hb2
  have HB2 := Lib.hid hb2
  clear hpa hb2 ho2 f1 f2 f3 f4 f5
  obtain ⟨wA, hwA⟩ : ∃ wA, ((w2.alloc (.cells #[.slice pl L.length cl] 177)).alloc (.cells #[.string ⟨#[116]⟩, .string ⟨#[9]⟩, .string ⟨#[114, 110]⟩, .int .i64 0, .int .i64 0, .int .i64 0] 191)).alloc (.cells #[.bool true] 4) = wA := ⟨_, rfl⟩
  have hbA : Below w2.heap.size w2 wA := by rw [← hwA]; exact (((Below.refl _ _).alloc (Nat.le_refl _) _).alloc (by simp only [World.size_alloc]; omega) _).alloc (by simp only [World.size_alloc]; omega) _
  have k1 : Blk wA w2.heap.size #[.slice pl L.length cl] 177 := by rw [← hwA]; exact ((Blk.new _ _ _).alloc _).alloc _
  have k2 : Blk wA (w2.heap.size + 1) #[strV [116], strV [9], strV [114, 110], .int .i64 0, .int .i64 0, .int .i64 0] 191 := by
    rw [← hwA]
    have := (Blk.new (w2.alloc (.cells #[.slice pl L.length cl] 177)) #[.string ⟨#[116]⟩, .string ⟨#[9]⟩, .string ⟨#[114, 110]⟩, .int .i64 0, .int .i64 0, .int .i64 0] 191).alloc (.cells #[.bool true] 4)
    simp only [World.size_alloc] at this
    exact this
  have k3 : Blk wA (w2.heap.size + 1 + 1) #[.bool true] 4 := by
    rw [← hwA]
    have := Blk.new ((w2.alloc (.cells #[.slice pl L.length cl] 177)).alloc (.cells #[.string ⟨#[116]⟩, .string ⟨#[9]⟩, .string ⟨#[114, 110]⟩, .int .i64 0, .int .i64 0, .int .i64 0] 191)) #[.bool true] 4
    simpa only [World.size_alloc] using this
  have h8 := hgl2.big
  have hstA : NlSt wA (w2.heap.size + 1) (w2.heap.size + 1 + 1) w2.heap.size pl cl L #[strV [116], strV [9], strV [114, 110], .int .i64 0, .int .i64 0, .int .i64 0] := by
    refine ⟨k2, k3, k1, hat.below hbA, fun a ha => ?_, hgl2.below hbA, by omega, by omega⟩
    have := (hl2.lt a.block (by rw [ha]; rfl)).2
    omega
  have hl2s : w.heap.size ≤ w2.heap.size := by have := HB1.out.size; have := HB2.out.size; omega
  have hbwA : Below w.heap.size w wA := (HB1.out.trans (HB2.out.mono HB1.out.size)).trans (hbA.mono hl2s)
  have HBWA := Lib.hid hbwA
  obtain ⟨fb, hfb⟩ : ∃ fb, w2.heap.size + 1 = fb := ⟨_, rfl⟩
  obtain ⟨gb, hgb⟩ : ∃ gb, w2.heap.size + 1 + 1 = gb := ⟨_, rfl⟩
  obtain ⟨lb, hlb⟩ : ∃ lb, w2.heap.size = lb := ⟨_, rfl⟩
  have hfg : w.heap.size ≤ fb ∧ w.heap.size ≤ gb := by omega
  rw [hgb, hfb, hlb] at hstA
  have HSTwA := Lib.hid hstA
  have HKwA : Hid (Kept (fun j => j = fb ∨ j = gb) wA wA) := Lib.hid (Kept.refl _ _)
  have HLB := Lib.hid hlb
  have HFB := Lib.hid (And.intro hfb hgb)
  have HFG := Lib.hid hfg
  have HWA := Lib.hid hwA
  have HL2S := Lib.hid hl2s
  clear hl2 hat hgl2 hstA k1 k2 k3 hbA hbwA h8 hfb hgb hlb hfg hwA hl2s
  have hwB := nl1_st L 118 1 0 2147483647 (by decide) (by decide) pl cl hlc hLN HLL.out fb 3 lb gb _ wA HSTwA.out v 0 HO.out.v_ rfl
  go_wp2_with fail
  rw [HWA.out, HFB.out.2, HFB.out.1, HLB.out]
  refine hwB.mono ?_
  rintro e wB ⟨⟨uwB, rfl⟩, hstwB, hkwB⟩
  clear hwB
  have HSTwB := Lib.hid hstwB
  have HKwB := Lib.hid (HKwA.out.trans hkwB)
  clear hstwB hkwB
  have hwC := nl1_st L 105 1 0 2147483647 (by decide) (by decide) pl cl hlc hLN HLL.out fb 4 lb gb _ wB HSTwB.out by_ 0 HO.out.i_ rfl
  go_wp2_with fail
  refine hwC.mono ?_
  rintro e wC ⟨⟨uwC, rfl⟩, hstwC, hkwC⟩
  clear hwC
  have HSTwC := Lib.hid hstwC
  have HKwC := Lib.hid (HKwB.out.trans hkwC)
  clear hstwC hkwC
  have hwD := nl1_st L 119 6 1 100 (by decide) (by decide) pl cl hlc hLN HLL.out fb 5 lb gb _ wC HSTwC.out (wd : Int) 0 HO.out.w_ rfl
  go_wp2_with fail
  refine hwD.mono ?_
  rintro e wD ⟨⟨uwD, rfl⟩, hstwD, hkwD⟩
  clear hwD
  have HSTwD := Lib.hid hstwD
  have HKwD := Lib.hid (HKwC.out.trans hkwD)
  clear hstwD hkwD
  have hwE := nl2_st L 115 (.slice none 0 0) pl cl hlc hLN fb 1 lb gb _ wD HSTwD.out [9] rfl (fun _ _ => .inl rfl)
  go_wp2_with fail
  refine hwE.mono ?_
  rintro e wE ⟨⟨uwE, rfl⟩, hstwE, hkwE⟩
  clear hwE
  have hwF := nl2_st L 98 (.slice (some ⟨wE.heap.size, 0, none⟩) 3 3) pl cl hlc hLN fb 0 lb gb _ _ (hstwE.below ((Below.refl _ _).alloc (Nat.le_refl _) (.cells #[.string ⟨#[116]⟩, .string ⟨#[97]⟩, .string ⟨#[110]⟩] 9))) [116] (by cases Op.last L 115 <;> rfl) (fun s hs => may_b fb s (by
    have := HO.out.b_
    rw [hs, Option.getD_some] at this
    cases t
    · exact .inr this
    · exact .inl this) wE hstwE.form.lt)
  have HKwE := Lib.hid (HKwD.out.trans hkwE)
  clear hstwE hkwE
  go_wp2_with fail
  refine hwF.mono ?_
  rintro e wF ⟨⟨uwF, rfl⟩, hstwF, hkwF⟩
  clear hwF
  have hwG := nl2_st L 110 (.slice (some ⟨wF.heap.size, 0, none⟩) 3 3) pl cl hlc hLN fb 2 lb gb _ _ (hstwF.below ((Below.refl _ _).alloc (Nat.le_refl _) (.cells #[.string ⟨#[108, 110]⟩, .string ⟨#[114, 110]⟩, .string ⟨#[114, 122]⟩] 9))) [114, 110] (by cases Op.last L 115 <;> cases Op.last L 98 <;> rfl) (fun s hs => may_n fb s (by
    have := HO.out.n_
    rw [hs, Option.getD_some] at this
    cases t
    · exact .inr this
    · exact .inl this) wF hstwF.form.lt)
  have HKwF := Lib.hid (HKwE.out.trans ((Kept.of_below ((Below.refl _ _).alloc (Nat.le_refl _) _)).trans hkwF))
  clear hstwF hkwF
  go_wp2_with fail
  refine hwG.mono ?_
  rintro e wG ⟨⟨uwG, rfl⟩, hstwG, hkwG⟩
  clear hwG
  rw [nl_words L t sep wd v by_ HO.out] at hstwG
  have hkG := HKwF.out.trans ((Kept.of_below ((Below.refl _ _).alloc (Nat.le_refl _) _)).trans hkwG)
  have hbA : Below w.heap.size w wG := HBWA.out.trans (below_of_kept hkG (by rintro k (rfl | rfl); exact HFG.out.1; exact HFG.out.2) HBWA.out.size)
  have hgood := hstwG.good.cell 0 (v := .bool true) rfl
  have hpr := H.out.below hbA
  have hform : FormSt fb t (!t) sep wd by_ v wG := ⟨hstwG.glo, by have := HO.out.vb; omega, by have := HO.out.vb; omega, hstwG.big.1, hstwG.form⟩
  have hent : ∀ (args : Array Value) (w : World), (callFunc 88 args).run Tryz.prog w = .ok (.enter 88 args) w := enters_of Tryz.func88 (by kernel_rfl) rfl
  have hrn := runs_any 88 hent _ _ _ _ _ _ F (nl_filt HG8.out fb t sep wd HO.out.wb.1 HO.out.wb.2 by_) M inp [] [] a0 rest ha ha0 (by simp) v po co wG hpr hform (fun j hj => by
    have := H.out.n0
    have := HFG.out.1
    rw [hj]
    refine ⟨by omega, fun hm => ?_⟩
    have := H.out.lt fb hm
    omega) (fun _ _ => trivial) (by rw [HR.out, List.nil_append]; exact hbig)
  rw [HR.out] at hrn
  have HBW := Lib.hid hbA
  clear hkwG hkG hbA hpr hform hent hstwG
  go_wp2_with fail
  refine hrn.mono ?_
  rintro e w7 ⟨inp', M', rfl, hp7, hk7, hm7⟩
  clear hrn
  have hfin : MainPost F M a0 R w (.returned (.int .i64 (if R.2 then 0 else 1))) w7 := by
    refine ⟨inp', M', rfl, by simpa using hp7, ⟨(Kept.of_below HBW.out).trans' hk7 fun k hk e => ?_, fun j hj => ?_⟩⟩
    · have := HFG.out.1
      rcases e with e | e
      · exact e
      · omega
    · rcases hm7 j hj with e | e
      · exact .inl e
      · have := HBW.out.size; exact .inr (by omega)
  generalize (if R.2 then (0 : Int) else 1) = st at *
  have HFIN := Lib.hid hfin
  clear hp7 hk7 hm7 hfin
  go_wp2_with fail
  go_ret
  exact HFIN.out

theorem starts_nl (w1 : World) (hg : Glo w1) (rest : List Bts) (hrest : rest ≠ []) (htot : totL rest ≤ 1000000) (L : List OptA) (hp : Op.parse [98, 58, 118, 58, 105, 58, 119, 58, 115, 58, 110, 58] rest = some (L, [])) (hLN : L.length ≤ 1000000) (hLl : ∀ o ∈ L, o.2.length ≤ 1000000)
    (t : Bool) (sep : Bts) (wd : Nat) (v by_ : Int) (ho : NlOpts L t sep wd v by_) (inp : Bts) (buf line run : Nat) (hbig : (Wi.runs (nlLine t (!t) sep wd by_) line v inp).1.length ≤ 4294967296) :
    Starts w1 27 ([110, 108] :: rest) buf line run inp (EndQ [110, 108] (Wi.runs (nlLine t (!t) sep wd by_) line v inp)) := by
  intro F M ha _ hline _ hw0
  subst hw0
  subst hline
  refine ⟨51, enters_of Tryz.func51 (by kernel_rfl) rfl, fun W hW => ?_, fun W hW => ?_⟩
  · exact start_nl F M inp rest ha W hW
  · exact (nl_any F M inp _ rest ha hrest htot (by decide) L hp hLN hLl t sep wd v by_ ho hg hbig W hW).mono fun e w' h => EndQ.of h

end Go.Proofs.YtbpcfjoebfbjmaaGreatDoor

/-
  Lists of tab stops, as plain functions. No program in sight. No condition.
-/
namespace Go.Proofs.YtbpcfjoebfbjmaaGreatDoor.Wi
open Go

/-- What stands between stops. -/
def sepB (c : UInt8) : Bool := c == 44 || c == 32 || c == 9
/-- The parts between such bytes. -/
def partsBy (f : UInt8 → Bool) : List UInt8 → List (List UInt8)
  | [] => [[]]
  | c :: r => if f c = true then [] :: partsBy f r else (c :: (partsBy f r).headD []) :: (partsBy f r).tail
theorem partsBy_ne (f : UInt8 → Bool) (s : List UInt8) : partsBy f s ≠ [] := by
  cases s with
  | nil => simp [partsBy]
  | cons c r => rw [partsBy]; split <;> simp
theorem partsBy_head (f : UInt8 → Bool) (s : List UInt8) : (partsBy f s).headD [] :: (partsBy f s).tail = partsBy f s := by
  have h := partsBy_ne f s
  cases hp : partsBy f s with
  | nil => exact absurd hp h
  | cons a b => rfl
theorem partsBy_hit (f : UInt8 → Bool) (c : UInt8) (r : List UInt8) (hc : f c = true) : ∀ (p : List UInt8), (∀ x ∈ p, f x = false) → partsBy f (p ++ c :: r) = p :: partsBy f r := by
  intro p
  induction p with
  | nil => intro _; rw [List.nil_append, partsBy, if_pos hc]
  | cons d t ih =>
    intro h
    rw [List.cons_append, partsBy, if_neg (by rw [h d (by simp)]; decide), ih fun x hx => h x (by simp [hx])]
    rfl
theorem partsBy_miss (f : UInt8 → Bool) : ∀ (p : List UInt8), (∀ x ∈ p, f x = false) → partsBy f p = [p] := by
  intro p
  induction p with
  | nil => intro _; rfl
  | cons d t ih =>
    intro h
    rw [partsBy, if_neg (by rw [h d (by simp)]; decide), ih fun x hx => h x (by simp [hx])]
    rfl

/-- Blanks may stand for commas. -/
theorem partsBy_map (g : UInt8 → UInt8) (hg : ∀ c, g c = if c = 32 ∨ c = 9 then 44 else c) : ∀ (s : List UInt8), partsBy (fun x => x == 44) (s.map g) = partsBy sepB s := by
  intro s
  induction s with
  | nil => rfl
  | cons c r ih =>
    rw [List.map_cons, partsBy, partsBy, ih]
    by_cases hc : sepB c = true
    · have h : (g c == 44) = true := by
        rw [hg]
        simp only [sepB, Bool.or_eq_true, beq_iff_eq] at hc
        rcases hc with (rfl | rfl) | rfl <;> decide
      rw [if_pos hc, if_pos h]
    · have hc2 := hc
      simp only [sepB, Bool.or_eq_true, beq_iff_eq, not_or] at hc2
      have e : g c = c := by rw [hg, if_neg]; simp [hc2]
      rw [if_neg hc, e, if_neg (by simp [hc2])]

/-- strings.Split, in these terms. -/
theorem splitB_parts (c : UInt8) : ∀ (k : Nat) (s : ByteArray), s.size ≤ k → (Lib.splitB ⟨#[c]⟩ 0 (Lib.countB s ⟨#[c]⟩) s).map (fun x => x.data.toList) = partsBy (fun x => x == c) s.data.toList := by
  intro k
  induction k with
  | zero =>
    intro s hk
    have h0 : s.data.toList = [] := List.eq_nil_of_length_eq_zero (by have := Lib.size_eq s; omega)
    rcases Lib.indexB_cases s ⟨#[c]⟩ with h | ⟨i, -, hi⟩
    · rw [Lib.countB_miss _ _ h, Lib.splitB_zero, h0]; simp [h0, partsBy]
    · have : (⟨#[c]⟩ : ByteArray).size = 1 := rfl
      omega
  | succ k ih =>
    intro s hk
    have hsz : (⟨#[c]⟩ : ByteArray).size = 1 := rfl
    have hix : Lib.indexB s ⟨#[c]⟩ = Lib.indexByte s.data.toList c := Lib.index_one s.data.toList c
    rcases Lib.indexB_cases s ⟨#[c]⟩ with h | ⟨i, h, hi⟩
    · rw [Lib.countB_miss _ _ h, Lib.splitB_zero, partsBy_miss]
      · rfl
      · intro x hx
        obtain ⟨j, hj⟩ := List.mem_iff_getElem?.1 hx
        have := Lib.indexByte_none (hix ▸ h) j
        rw [hj] at this
        simpa using fun e => this (by rw [e])
    · rw [Lib.countB_hit _ _ i (by rw [hsz]; exact Nat.le_refl _) h, Nat.add_comm, Lib.splitB_hit _ _ _ _ _ h, List.map_cons]
      rw [ih _ (by simp [ByteArray.size_extract]; omega)]
      obtain ⟨h1, h2⟩ := Lib.indexByte_some (hix ▸ h)
      have hlt : i < s.data.toList.length := by have := Lib.size_eq s; omega
      have es : s.data.toList = s.data.toList.take i ++ c :: s.data.toList.drop (i + 1) := by
        have e1 : s.data.toList[i] = c := by rw [List.getElem?_eq_getElem hlt] at h1; exact Option.some.inj h1
        rw [← e1, ← List.drop_eq_getElem_cons hlt, List.take_append_drop]
      conv => rhs; rw [es]
      rw [partsBy_hit _ c _ (by simp)]
      · rw [Lib.extract_from_zero, Nat.add_zero, Lib.extract_to_end, hsz]
      · intro x hx
        obtain ⟨j, hj⟩ := List.mem_iff_getElem?.1 hx
        rw [List.getElem?_take] at hj
        split at hj
        · rename_i hji
          have := h2 j hji
          rw [hj] at this
          simpa using fun e => this (by rw [e])
        · cases hj

/-- A list of stops is read. -/
def stopsGo (most : Int) : List Int → List (List UInt8) → Option (List Int)
  | out, [] => some out
  | out, p :: ps => match Ord.number p most with
    | none => none
    | some n => if n < 1 ∨ (out ≠ [] ∧ n ≤ out.getLastD 0) then none else stopsGo most (out ++ [n]) ps
theorem stopsGo_bad (most : Int) (out : List Int) (p : List UInt8) (ps : List (List UInt8)) (h : Ord.number p most = none) : stopsGo most out (p :: ps) = none := by
  rw [stopsGo, h]
theorem stopsGo_low (most : Int) (out : List Int) (p : List UInt8) (ps : List (List UInt8)) (n : Int) (h : Ord.number p most = some n) (h2 : n < 1 ∨ (out ≠ [] ∧ n ≤ out.getLastD 0)) : stopsGo most out (p :: ps) = none := by
  rw [stopsGo, h]
  simp only
  rw [if_pos h2]
theorem stopsGo_good (most : Int) (out : List Int) (p : List UInt8) (ps : List (List UInt8)) (n : Int) (h : Ord.number p most = some n) (h1 : 1 ≤ n) (h2 : out = [] ∨ out.getLastD 0 < n) : stopsGo most out (p :: ps) = stopsGo most (out ++ [n]) ps := by
  rw [stopsGo, h]
  simp only
  rw [if_neg]
  rintro (h3 | ⟨h3, h4⟩)
  · omega
  · rcases h2 with h2 | h2
    · exact h3 h2
    · omega
def stopsOf (most : Int) (s : List UInt8) : Option (List Int) := stopsGo most [] (partsBy sepB s)

/-- The reference's loop: at a byte between stops, or at the end. -/
theorem stops_at (s : List UInt8) (a i : Nat) (h : a ≤ i) (hi : i < s.length) (hn : ∀ k, a ≤ k → k < i → sepB (s.getD k 0) = false) (hs : sepB (s.getD i 0) = true) : partsBy sepB (s.drop a) = (s.drop a).take (i - a) :: partsBy sepB (s.drop (i + 1)) := by
  have e1 : s.drop a = (s.drop a).take (i - a) ++ s.drop i := by
    conv => lhs; rw [← List.take_append_drop (i - a) (s.drop a)]
    rw [List.drop_drop]
    congr 2
    omega
  have e2 : s.drop i = s.getD i 0 :: s.drop (i + 1) := by
    rw [List.drop_eq_getElem_cons hi, List.getD_eq_getElem?_getD, List.getElem?_eq_getElem hi]; rfl
  conv => lhs; rw [e1, e2]
  rw [partsBy_hit _ _ _ hs]
  intro x hx
  obtain ⟨j, hj⟩ := List.mem_iff_getElem?.1 hx
  rw [List.getElem?_take] at hj
  split at hj
  · rename_i hji
    rw [List.getElem?_drop] at hj
    have := hn (a + j) (by omega) (by omega)
    rw [List.getD_eq_getElem?_getD, hj] at this
    exact this
  · cases hj
theorem stops_end (s : List UInt8) (a : Nat) (hn : ∀ k, a ≤ k → k < s.length → sepB (s.getD k 0) = false) : partsBy sepB (s.drop a) = [s.drop a] := by
  refine partsBy_miss _ _ fun x hx => ?_
  obtain ⟨j, hj⟩ := List.mem_iff_getElem?.1 hx
  rw [List.getElem?_drop] at hj
  have hlt := (List.getElem?_eq_some_iff.1 hj).1
  have := hn (a + j) (by omega) hlt
  rw [List.getD_eq_getElem?_getD, hj] at this
  exact this

/-- One number alone. -/
theorem stopsOf_one (most : Int) (s : List UInt8) (hs : ∀ c ∈ s, Ord.digit c = true) (n : Int) (hn : Ord.number s most = some n) (h1 : 1 ≤ n) : stopsOf most s = some [n] := by
  unfold stopsOf
  rw [partsBy_miss _ s fun x hx => by
    have := Ord.digit_nat (hs x hx)
    unfold sepB
    simp only [Bool.or_eq_false_iff, beq_eq_false_iff_ne]
    refine ⟨⟨?_, ?_⟩, ?_⟩ <;> rintro rfl <;> revert this <;> decide]
  rw [stopsGo_good most [] s [] n hn h1 (.inl rfl)]
  rfl

end Go.Proofs.YtbpcfjoebfbjmaaGreatDoor.Wi

/-
  The walks of the document's Based and Number, to base ten, at most MaxNum. Condition: lengths.
-/
namespace Go.Proofs.YtbpcfjoebfbjmaaGreatDoor
open Go.RowKit Go.Shelf Go.Maps

theorem ordv_append (a b : Ord.Bytes) : Ord.value (a ++ b) = b.foldl (fun n c => n * 10 + (c.toNat - 48)) (Ord.value a) := by
  unfold Ord.value
  rw [List.foldl_append]
theorem ordv_snoc (a : Ord.Bytes) (c : UInt8) : Ord.value (a ++ [c]) = Ord.value a * 10 + (c.toNat - 48) := by
  rw [ordv_append]
  rfl
theorem ordv_take (s : Ord.Bytes) (i : Nat) : Ord.value (s.take i) ≤ Ord.value s := by
  conv => rhs; rw [← List.take_append_drop i s, ordv_append]
  exact Ord.valueFrom_ge _ _

end Go.Proofs.YtbpcfjoebfbjmaaGreatDoor

/-
  The walks of the document's Stops and Next. Condition: lengths, columns that are not negative.
-/
namespace Go.Proofs.YtbpcfjoebfbjmaaGreatDoor
open Go.RowKit Go.Shelf Go.Maps

/-- What reading a list of stops hands back. -/
def StopsPost (r : Option (List Int)) (w : World) (e : Ending) (w' : World) : Prop := Below w.heap.size w w' ∧ ((r = none ∧ e = .returned (.tuple #[.slice none 0 0, .bool false])) ∨ ∃ l v, r = some l ∧ e = .returned (.tuple #[v, .bool true]) ∧ w'.ownsRow w.heap.size 3 1 v l.length (l.map intV))
theorem extract_mid (l : List UInt8) (a b : Nat) : (⟨l.toArray⟩ : ByteArray).extract a b = ⟨((l.drop a).take (b - a)).toArray⟩ := by
  apply ByteArray.ext; simp [ByteArray.data_extract]
theorem ints_shape {w : World} {B n : Nat} {v : Value} {xs : List Value} (h : w.ownsRow B 3 1 v n xs) : ∃ p c, v = .slice p n c := by
  rcases h.2 with ⟨h1, h2⟩ | ⟨g, cap, cur, e, -⟩
  · exact ⟨none, 0, by rw [h1, h2]⟩
  · exact ⟨_, _, e⟩
theorem ints_last {w : World} {B : Nat} {v : Value} {out : List Int} (h : w.ownsRow B 3 1 v out.length (out.map intV)) (h0 : out ≠ []) : ∃ g c, v = .slice (some ⟨g, 0, none⟩) out.length c ∧ w.cell? ⟨g, out.length - 1, none⟩ = some (.int .i64 (out.getLastD 0)) ∧ out.length ≤ c := by
  obtain ⟨m, hm⟩ : ∃ m, out.length = m + 1 := ⟨out.length - 1, by have := List.length_pos_iff.2 h0; omega⟩
  have h2 := h
  rw [hm] at h2
  obtain ⟨g, c, e⟩ := own_slice h2
  refine ⟨g, c, by rw [hm]; exact e, ?_, ?_⟩
  · rw [e] at h2
    have h3 := h2.cellAt m (by omega)
    rw [hm, Nat.add_sub_cancel, h3, List.getElem?_map, List.getElem?_eq_getElem (by omega)]
    have : out.getLastD 0 = out[m] := by
      have e9 : out.length - 1 = m := by omega
      rw [List.getLastD_eq_getLast?, List.getLast?_eq_getElem?, e9, List.getElem?_eq_getElem (by omega)]
      rfl
    rw [this]
    rfl
  · rcases h2.2 with ⟨h1, h2⟩ | ⟨g', cap, cur, e', -, -, hc, -⟩
    · omega
    · rw [e] at e'; injection e' with _ _ e3; omega

end Go.Proofs.YtbpcfjoebfbjmaaGreatDoor

/-
  The walks of sync.Once.Do's parts, once and alone: load, store, lock, unlock. No condition beside the cells. (After the kit's worked proof of a once.)
-/
namespace Go.Proofs.YtbpcfjoebfbjmaaGreatDoor.Rp
open Go.RowKit Go.Shelf

theorem disable (w : World) : (callFunc 305 #[]).run Tryz.prog w = .ok (.value (.tuple #[])) w := run_call_mark0 Tryz.func305 (by kernel_rfl) (by kernel_rfl) (by kernel_rfl) .disable (by kernel_rfl) w
theorem enable (w : World) : (callFunc 307 #[]).run Tryz.prog w = .ok (.value (.tuple #[])) w := run_call_mark0 Tryz.func307 (by kernel_rfl) (by kernel_rfl) (by kernel_rfl) .enable (by kernel_rfl) w
theorem acquire (a : Addr) (w : World) : (callFunc 308 #[.pointer (some a)]).run Tryz.prog w = .ok (.value (.tuple #[])) w := run_call_marked Tryz.func308 (by kernel_rfl) (by kernel_rfl) (by kernel_rfl) .acquire (by kernel_rfl) a w
theorem releaseMerge (a : Addr) (w : World) : (callFunc 310 #[.pointer (some a)]).run Tryz.prog w = .ok (.value (.tuple #[])) w := run_call_marked Tryz.func310 (by kernel_rfl) (by kernel_rfl) (by kernel_rfl) .releaseMerge (by kernel_rfl) a w

theorem load_any (a : Addr) (x : Int) (w : World) (hc : w.cell? a = some (.int .u32 x)) :
    Calls Tryz.prog 243 #[.pointer (some a)] w fun e w' => e = .returned (.bool (x != 0)) ∧ w' = w := by
  have hl := run_call_load (P := Tryz.prog) Tryz.func277 (by kernel_rfl) (by kernel_rfl) (by kernel_rfl) .u32 (by kernel_rfl) hc
  go_enter Tryz.func243, Tryz.ntmps243
  go_wp2_with fail
  go_ret
  exact ⟨rfl, rfl⟩

theorem b32_true (w : World) : Calls Tryz.prog 298 #[.bool true] w fun e w' => e = .returned (.int .u32 1) ∧ w' = w := by
  go_enter Tryz.func298, Tryz.ntmps298
  go_wp2_with fail
  go_ret
  exact ⟨rfl, rfl⟩

set_option maxRecDepth 100000 in
set_option maxHeartbeats 1600000 in
/-- Store(true), entered as a deferred call: the cell holds 1. -/
theorem store_deferred (a : Addr) (x : Value) (u : FrameMode) (w : World) (hc : w.cell? a = some x) (hz : w.frozen? a = false) :
    CallsD Tryz.prog 280 #[.pointer (some a), .bool true] u w fun e u' w' => u' = u ∧ (e = .returned (.tuple #[]) ∧ w' = w.drew.setCell a (.int .u32 1)) := by
  have hc' : w.drew.cell? a = some x := by go_simp
  have hz' : w.drew.frozen? a = false := by go_simp
  have hst := run_call_store (P := Tryz.prog) Tryz.func297 (by kernel_rfl) (by kernel_rfl) (by kernel_rfl) (by kernel_rfl) (k := .u32) (y := 1) hc' hz'
  go_enter_d Tryz.func280, Tryz.ntmps280
  go_wp2
  go_region_calls
  all_goals (go_end0; exact ⟨rfl, rfl⟩)

set_option maxRecDepth 100000 in
set_option maxHeartbeats 1600000 in
/-- Unlock, entered as a deferred call, the lock held and nobody waiting. -/
theorem unlock_deferred (a : Addr) (u : FrameMode) (w : World) (hc : w.cell? a = some (.int .i32 1)) (hz : w.frozen? a = false) :
    CallsD Tryz.prog 279 #[.pointer (some a)] u w fun e u' w' => u' = u ∧ (e = .returned (.tuple #[]) ∧ w' = w.setCell a (.int .i32 0)) := by
  have hd := disable
  have he := enable
  have hr := releaseMerge
  have hadd := run_call_add (P := Tryz.prog) Tryz.func311 (by kernel_rfl) (by kernel_rfl) (by kernel_rfl) .i32 (by kernel_rfl) (y := -1) (s := 0) hc hz (by simp [go_sem]; rfl)
  have hcv := run_convert_to_unsafe (P := Tryz.prog) (src := 433) (dst := 430) Tryz.underlying433 Tryz.underlying430 (by kernel_rfl) hc
  go_enter_d Tryz.func279, Tryz.ntmps279
  go_wp2
  go_end0
  go_wp2

set_option maxRecDepth 100000 in
set_option maxHeartbeats 1600000 in
/-- Lock, the lock free. -/
theorem lock_free (a : Addr) (w : World) (hc : w.cell? a = some (.int .i32 0)) (hz : w.frozen? a = false) :
    Calls Tryz.prog 278 #[.pointer (some a)] w fun e w' => e = .returned (.tuple #[]) ∧ w' = w.setCell a (.int .i32 1) := by
  have hd := disable
  have he := enable
  have ha := acquire
  have hcas := run_call_cas_hit (P := Tryz.prog) Tryz.func306 (by kernel_rfl) (by kernel_rfl) (by kernel_rfl) .i32 (by kernel_rfl) (y := 1) hc hz
  have hc' : (w.setCell a (.int .i32 1)).cell? a = some (.int .i32 1) := World.cell?_setCell_same w a _ hc
  have hcv := run_convert_to_unsafe (P := Tryz.prog) (src := 433) (dst := 430) Tryz.underlying433 Tryz.underlying430 (by kernel_rfl) hc'
  go_enter Tryz.func278, Tryz.ntmps278
  go_wp2
  first | go_end0 | (simp only [Exit.inBlock, Exit.then]; refine bodyPost_ret (results_none rfl _ _ _) rfl ?_) | refine bodyPost_ret (results_none rfl _ _ _) rfl ?_
  go_wp2

end Go.Proofs.YtbpcfjoebfbjmaaGreatDoor.Rp

/-
  The walks of strings.NewReplacer and of the replacer's build, of blanks by commas. No condition beside the cells.
-/
namespace Go.Proofs.YtbpcfjoebfbjmaaGreatDoor.Rp
open Go.RowKit Go.Shelf

/-- What the replacer's table holds. -/
def rep (c : UInt8) : UInt8 := if c = 32 ∨ c = 9 then 44 else c
def olds : List Bts := [[32], [44], [9], [44]]

theorem info_string : (Tryz.prog.info? 9).map (fun i => (i.zero, i.size, i.bytes)) = some (some (.string ByteArray.empty), 1, 16) := by kernel_rfl

set_option maxRecDepth 100000 in
set_option maxHeartbeats 4000000 in
theorem newRep_any (b o c : Nat) (w : World) (hc : ∀ i, i < 4 → w.cell? ⟨b, o + i, none⟩ = some (strV (olds.getD i []))) :
    Calls Tryz.prog 180 #[.slice (some ⟨b, o, none⟩) 4 c] w fun e w' => ∃ r v, e = .returned (.pointer (some ⟨r, 0, none⟩)) ∧ w.heap.size ≤ r ∧ Blk w' r #[.int .u32 0, .int .i32 0, .int .u32 0, .nilIface, v] 342 ∧ w'.ownsRow w.heap.size 9 1 v 4 (olds.map strV) ∧ Below w.heap.size w w' := by
  obtain ⟨i0, hi, hz0, hz1, hz2⟩ := info_parts info_string
  have HN : Hid (∀ j u, (olds.map strV)[j]? = some u → w.cell? ((⟨b, o, none⟩ : Addr).add j) = some u) := Lib.hid (by
    intro j u hu
    have hj : j < 4 := by
      rcases Nat.lt_or_ge j 4 with h | h
      · exact h
      · rw [List.getElem?_eq_none (by simpa [olds] using h)] at hu; cases hu
    rw [show ((⟨b, o, none⟩ : Addr).add j) = ⟨b, o + j, none⟩ by simp only [Addr.add]; split <;> simp_all, hc j hj]
    have hj2 : j < olds.length := hj
    rw [List.getElem?_map, List.getElem?_eq_getElem hj2] at hu
    rw [List.getD_eq_getElem?_getD, List.getElem?_eq_getElem hj2]
    exact hu)
  clear hc
  go_enter Tryz.func180, Tryz.ntmps180
  go_wp2_with (at_builtin; refine wpList_append_own _ rfl _ _ 27 rfl w.heap.size 9 i0 (.string ByteArray.empty) 1 16 Tryz.underlying27 hi hz0 hz1 hz2 rfl (by decide) (.slice none 0 0) 0 [] rfl (World.ownsRow_nil _ _ _ _) ⟨b, o, none⟩ 4 c (olds.map strV) rfl rfl HN.out (by simp [olds, strV, Value.oneCell']) (by decide) (by decide) (Nat.le_refl _) ?_; intro v w1 hown hgrow _; obtain ⟨gg, cp, rfl⟩ := own_slice (n := 3) hown)
  have hb1 : Below w.heap.size w w1 := (Below.refl _ w).grown hgrow (Nat.le_refl _) (fun j hj => by cases hj)
  have hown2 : w1.ownsRow w.heap.size 9 1 (.slice (some ⟨gg, 0, none⟩) 4 cp) 4 (olds.map strV) := by simpa using hown
  go_ret
  exact ⟨_, rfl, hb1.size, _, Blk.new _ _ _, own_kept hown2 (Kept.of_below (S := fun _ => False) ((Below.refl _ w1).alloc (Nat.le_refl _) _)) fun _ _ h => h, hb1.alloc hb1.size _⟩

/-- The table, so many places of it filled. -/
def tabN (k : Nat) : Array Value := ((List.range 256).map fun j => Value.int .u8 (if j < k then (j : Int) else 0)).toArray
def tabR : Array Value := ((List.range 256).map fun j => Value.int .u8 ((rep (UInt8.ofNat j)).toNat : Int)).toArray
theorem tabN_size (k : Nat) : (tabN k).size = 256 := by simp [tabN]
theorem tabN_at (k j : Nat) (h : j < 256) : (tabN k)[j]? = some (.int .u8 (if j < k then (j : Int) else 0)) := by
  unfold tabN; simp [h]
theorem tabN_set (k : Nat) (hk : k < 256) : (tabN k).setIfInBounds k (.int .u8 k) = tabN (k + 1) := by
  apply Array.ext_getElem?
  intro i
  by_cases hi : i < 256
  · by_cases e : i = k
    · subst e
      rw [Array.getElem?_setIfInBounds_self_of_lt (by rw [tabN_size]; exact hi), tabN_at _ _ hi, if_pos (by omega)]
    · rw [Array.getElem?_setIfInBounds_ne (fun h => e h.symm), tabN_at _ _ hi, tabN_at _ _ hi]
      by_cases h1 : i < k
      · rw [if_pos h1, if_pos (by omega)]
      · rw [if_neg h1, if_neg (by omega)]
  · rw [Array.getElem?_eq_none (by simp [tabN_size]; omega), Array.getElem?_eq_none (by simp [tabN_size]; omega)]
theorem tabR_at (j : Nat) (h : j < 256) : tabR[j]? = some (.int .u8 ((rep (UInt8.ofNat j)).toNat : Int)) := by
  unfold tabR; simp [h]
theorem tabR_size : tabR.size = 256 := by simp [tabR]
theorem tab_end : ((tabN 256).setIfInBounds 9 (.int .u8 44)).setIfInBounds 32 (.int .u8 44) = tabR := by
  apply Array.ext_getElem?
  intro i
  by_cases hi : i < 256
  · rw [tabR_at i hi]
    by_cases h1 : i = 32
    · subst h1
      rw [Array.getElem?_setIfInBounds_self_of_lt (by simp [tabN_size])]; rfl
    · rw [Array.getElem?_setIfInBounds_ne (fun h => h1 h.symm)]
      by_cases h2 : i = 9
      · subst h2
        rw [Array.getElem?_setIfInBounds_self_of_lt (by simp [tabN_size])]; rfl
      · rw [Array.getElem?_setIfInBounds_ne (fun h => h2 h.symm), tabN_at _ _ hi, if_pos hi]
        have e1 : (UInt8.ofNat i).toNat = i := UInt8.toNat_ofNat_of_lt' hi
        have e2 : rep (UInt8.ofNat i) = UInt8.ofNat i := by
          unfold rep
          rw [if_neg]
          rintro (h | h)
          · exact h1 (by rw [← e1, h]; rfl)
          · exact h2 (by rw [← e1, h]; rfl)
        rw [e2, e1]
  · rw [Array.getElem?_eq_none (by simp [tabN_size]; omega), Array.getElem?_eq_none (by rw [tabR_size]; omega)]

set_option maxRecDepth 100000 in
set_option maxHeartbeats 8000000 in
theorem build_any (r : Nat) (x0 x1 x2 x3 v : Value) (B : Nat) (w : World) (hr : Blk w r #[x0, x1, x2, x3, v] 342) (ho : w.ownsRow B 9 1 v 4 (olds.map strV)) :
    Calls Tryz.prog 245 #[.pointer (some ⟨r, 0, none⟩)] w fun e w' => ∃ b, e = .returned (.iface 402 (.pointer (some ⟨b, 0, none⟩))) ∧ w.heap.size ≤ b ∧ Blk w' b tabR 401 ∧ Below w.heap.size w w' := by
  obtain ⟨g, c, rfl⟩ := own_slice (n := 3) ho
  have hglt := (ho.lt g rfl).2
  have r4 := hr.cell 4 (v := .slice (some ⟨g, 0, none⟩) 4 c) rfl
  have hcap : (4 : Nat) ≤ c := by
    rcases ho.2 with ⟨h, -⟩ | ⟨g', cap, cur, e, -, -, hc, -⟩
    · cases h
    · injection e with _ _ e; omega
  have a0 := ho.cellAt 0 (by decide)
  have a1 := ho.cellAt 1 (by decide)
  have a2 := ho.cellAt 2 (by decide)
  have a3 := ho.cellAt 3 (by decide)
  simp only [olds, strV, List.map_cons, List.map_nil, List.getElem?_cons_zero, List.getElem?_cons_succ] at a0 a1 a2 a3
  have H0 := Lib.hid a0
  have H1 := Lib.hid a1
  have H2 := Lib.hid a2
  have H3 := Lib.hid a3
  clear hr ho
  have hinfo : (Tryz.prog.info? 401).map (·.size) = some 256 := by kernel_rfl
  have hone : (Tryz.zeroCells401).all (·.oneCell') = true := by kernel_rfl
  have hzero : Tryz.zeroCells401 = tabN 0 := by kernel_rfl
  have HI := Lib.hid hinfo
  have HONE := Lib.hid hone
  have HZ := Lib.hid hzero
  clear hinfo hone hzero
  go_enter Tryz.func245, Tryz.ntmps245
  go_wp2_with fail
  go_loopw [4, 5] (fun x4 i wr => x4 = .bool true ∧ (i = .int .i64 0 ∨ i = .int .i64 2 ∨ i = .int .i64 4) ∧ wr = w) (fun _ i _ => 4 - (intOf i).toNat)
  case atStart => exact ⟨rfl, .inl rfl, rfl⟩
  case round =>
    obtain ⟨rfl, h, rfl⟩ := hrel
    rcases h with rfl | rfl | rfl
    · go_wp2_with fail
      go_roundw
      case rel => exact ⟨rfl, .inr (.inl rfl), by first | rfl | trivial⟩
      case measure => simp [intOf]
    · go_wp2_with fail
      go_roundw
      case rel => exact ⟨rfl, .inr (.inr rfl), by first | rfl | trivial⟩
      case measure => simp [intOf]
    · obtain ⟨wo, hwo⟩ : ∃ wo, wo = wr := ⟨_, rfl⟩
      subst hwo
      go_wp2_with (refine wpList_store_mid rfl 401 _ _ rfl wo.heap.size 0 _ rfl rfl (Blk.there (Blk.new wo _ _) _ (by decide)) HI.out HONE.out ?_; generalize hW : World.setCells _ wo.heap.size 0 _ = w2; refine Hid.out ?_)
      have hb2 : Blk w2 wo.heap.size (tabN 0) 401 := by rw [← hW, ← HZ.out]; exact Blk.setAll (Blk.new wo _ _) rfl
      have hbel : Below wo.heap.size wo w2 := by rw [← hW]; exact (Kept.setCells (S := fun _ => False) (.inr (Nat.le_refl _)) _ 0 _ ((Kept.refl _ wo).alloc _)).below
      clear hW
      have HB2 := Lib.hid hb2
      have HBL := Lib.hid hbel
      clear hb2 hbel
      refine Lib.hid ?_
      go_wp2_with fail
      go_loopw [7, 61] (fun _x7 x61 wr => ∃ k : Nat, k ≤ 256 ∧ x61 = .int .i64 k ∧ Hid (Blk wr wo.heap.size (tabN k) 401) ∧ Hid (Below wo.heap.size wo wr)) (fun _ x61 _ => 256 - (intOf x61).toNat)
      case atStart => exact ⟨0, Nat.zero_le _, rfl, HB2, HBL⟩
      case round =>
        clear HB2 HBL
        obtain ⟨k, hk, rfl, HB, HL⟩ := hrel
        by_cases hlt : k < 256
        · have e1 : decide ((k : Int) < 256) = true := by simp; omega
          have e2 : (k : Int) % 256 = k := by omega
          have c1 := HB.out.cell k (tabN_at k k hlt)
          have c2 := HB.out.free k
          have e3 : (0 : Int) ≤ k := by omega
          have e4 : (k : Int) < 256 := by omega
          go_wp2_with fail
          go_roundw
          case rel => exact ⟨k + 1, by omega, by go_num, Lib.hid (by rw [← tabN_set k hlt]; exact HB.out.set k _), Lib.hid (((Kept.of_below (S := fun _ => False) HL.out).setCell (.inr (Nat.le_refl _)) k _).below)⟩
          case measure => simp [intOf]; omega
        · obtain ⟨k256, hk2⟩ : ∃ k256 : Nat, k256 = k ∧ k256 = 256 := ⟨k, rfl, by omega⟩
          have HB256 : Hid (Blk wr wo.heap.size (tabN 256) 401) := by
            have : k = 256 := by omega
            rw [this] at HB; exact HB
          have e1 : decide ((k : Int) < 256) = false := by simp; omega
          obtain ⟨w5, hw5⟩ : ∃ w5, w5 = wr := ⟨_, rfl⟩
          subst hw5
          have b0 := Lib.hid ((HL.out.cell (p := ⟨g, 0, none⟩) hglt).trans H0.out)
          have b1 := Lib.hid ((HL.out.cell (p := ⟨g, 1, none⟩) hglt).trans H1.out)
          have b2 := Lib.hid ((HL.out.cell (p := ⟨g, 2, none⟩) hglt).trans H2.out)
          have b3 := Lib.hid ((HL.out.cell (p := ⟨g, 3, none⟩) hglt).trans H3.out)
          clear a0 a1 a2 a3 r4 HB hk2
          go_wp2_with fail
          go_loopw [8, 9, 10] (fun x8 _x9 _x10 wr => ((x8 = .int .i64 2 ∧ Hid (Blk wr wo.heap.size (tabN 256) 401)) ∨ (x8 = .int .i64 0 ∧ Hid (Blk wr wo.heap.size ((tabN 256).setIfInBounds 9 (.int .u8 44)) 401)) ∨ (x8 = .int .i64 (-2) ∧ Hid (Blk wr wo.heap.size tabR 401))) ∧ Hid (Below wo.heap.size wo wr)) (fun x8 _ _ _ => (intOf x8 + 2).toNat)
          case atStart => exact ⟨.inl ⟨rfl, HB256⟩, HL⟩
          case round =>
            clear HB256 HL b0 b1 b2 b3
            obtain ⟨h, HL⟩ := hrel
            have a0 := (HL.out.cell (p := ⟨g, 0, none⟩) hglt).trans H0.out
            have a1 := (HL.out.cell (p := ⟨g, 1, none⟩) hglt).trans H1.out
            have a2 := (HL.out.cell (p := ⟨g, 2, none⟩) hglt).trans H2.out
            have a3 := (HL.out.cell (p := ⟨g, 3, none⟩) hglt).trans H3.out
            have i1 : ∀ h, (⟨#[9]⟩ : ByteArray)[0]'h = 9 := fun _ => rfl
            have i2 : ∀ h, (⟨#[32]⟩ : ByteArray)[0]'h = 32 := fun _ => rfl
            have i3 : ∀ h, (⟨#[44]⟩ : ByteArray)[0]'h = 44 := fun _ => rfl
            rcases h with ⟨rfl, HB⟩ | ⟨rfl, HB⟩ | ⟨rfl, HB⟩
            · have c1 := HB.out.cell 9 (tabN_at 256 9 (by decide))
              have c2 := HB.out.free 9
              go_wp2_with fail
              go_roundw
              case rel => exact ⟨.inr (.inl ⟨by go_num, Lib.hid (HB.out.set 9 _)⟩), Lib.hid (((Kept.of_below (S := fun _ => False) HL.out).setCell (.inr (Nat.le_refl _)) 9 _).below)⟩
              case measure => simp [intOf]
            · have c1 := HB.out.cell 32 (by rw [Array.getElem?_setIfInBounds_ne (by decide)]; exact tabN_at 256 32 (by decide))
              have c2 := HB.out.free 32
              go_wp2_with fail
              go_roundw
              case rel => exact ⟨.inr (.inr ⟨by go_num, Lib.hid (by rw [← tab_end]; exact HB.out.set 32 _)⟩), Lib.hid (((Kept.of_below (S := fun _ => False) HL.out).setCell (.inr (Nat.le_refl _)) 32 _).below)⟩
              case measure => simp [intOf]
            · go_wp2_with fail
              go_ret
              exact ⟨_, rfl, Nat.le_refl _, HB.out, HL.out⟩

end Go.Proofs.YtbpcfjoebfbjmaaGreatDoor.Rp
