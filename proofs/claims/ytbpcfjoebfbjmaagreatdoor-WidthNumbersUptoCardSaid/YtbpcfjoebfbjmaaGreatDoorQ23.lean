/-
  Texts of this seat put together: V20, V21, V15, V22.
-/
import Derived.Test.YtbpcfjoebfbjmaaGreatDoorQ22
import Derived.Test.YtbpcfjoebfbjmaaGreatDoorQ11
import Derived.Lib.ItoaLen
import Derived.Test.YtbpcfjoebfbjmaaGreatDoorQ17

/-
  The walk of form.line at a line that is numbered: noughts ahead where all lines are numbered, blanks where those that are not empty. Conditions: those of V19.
-/
namespace Go.Proofs.YtbpcfjoebfbjmaaGreatDoor
open Go.RowKit Go.Shelf Go.Maps

theorem slE_conv {W : World} {g B c : Nat} {xs : Bts} (hbs : Bs W (some ⟨g, 0, none⟩) xs) (hlt : g < W.heap.size) (hc : xs.length ≤ c) (hB : B ≤ g) : SlE W (fun j => B ≤ j) (.slice (some ⟨g, 0, none⟩) xs.length c) xs := by
  cases xs with
  | nil => exact .inl ⟨rfl, _, _, rfl⟩
  | cons x r => exact .inr ⟨by simp, .inr ⟨g, 0, c, rfl, hc, hlt, hB, fun i hi => hbs.at i hi⟩⟩
theorem join2_lit (W : World) (v1 v2 : Value) (xs ys : Bts) (N1 N2 : Nat → Prop) (s1 : SlE W N1 v1 xs) (s2 : SlE W N2 v2 ys) (hl : xs.length + ys.length ≤ 4294967296) :
    Calls Tryz.prog 122 #[.slice (some ⟨W.heap.size, 0, none⟩) 2 2] (W.alloc (.cells #[v1, v2] 22)) fun e w' => ∃ v', e = .returned v' ∧ SlE w' (fun g => W.heap.size ≤ g) v' (xs ++ ys) ∧ Below W.heap.size W w' := by
  have hal : Below W.heap.size W (W.alloc (.cells #[v1, v2] 22)) := (Below.refl _ _).alloc (Nat.le_refl _) _
  refine (join2_any W.heap.size 0 2 (Nat.le_refl _) v1 v2 xs ys N1 N2 _ ((Blk.new W _ _).cell 0 rfl) ((Blk.new W _ _).cell 1 rfl) (s1.below hal) (s2.below hal) hl).mono fun e w' ⟨v', he, hs, hb⟩ => ⟨v', he, hs.mono fun g _ hg => Nat.le_trans hal.size hg, hal.trans (hb.mono hal.size)⟩
theorem join3_lit (W : World) (v1 v2 v3 : Value) (xs ys zs : Bts) (N1 N2 N3 : Nat → Prop) (s1 : SlE W N1 v1 xs) (s2 : SlE W N2 v2 ys) (s3 : SlE W N3 v3 zs) (hl : xs.length + ys.length + zs.length ≤ 4294967296) :
    Calls Tryz.prog 122 #[.slice (some ⟨W.heap.size, 0, none⟩) 3 3] (W.alloc (.cells #[v1, v2, v3] 22)) fun e w' => ∃ v', e = .returned v' ∧ SlE w' (fun g => W.heap.size ≤ g) v' (xs ++ ys ++ zs) ∧ Below W.heap.size W w' := by
  have hal : Below W.heap.size W (W.alloc (.cells #[v1, v2, v3] 22)) := (Below.refl _ _).alloc (Nat.le_refl _) _
  refine (join3_any W.heap.size 0 3 (Nat.le_refl _) v1 v2 v3 xs ys zs N1 N2 N3 _ ((Blk.new W _ _).cell 0 rfl) ((Blk.new W _ _).cell 1 rfl) ((Blk.new W _ _).cell 2 rfl) (s1.below hal) (s2.below hal) (s3.below hal) hl).mono fun e w' ⟨v', he, hs, hb⟩ => ⟨v', he, hs.mono fun g _ hg => Nat.le_trans hal.size hg, hal.trans (hb.mono hal.size)⟩
theorem nou_lit (W : World) (n : Nat) (hn : n ≤ 8192) (g c : Nat) (hc : n ≤ c) (N : Nat → Prop) (hs : SlE W N (.slice (some ⟨g, 0, none⟩) n c) (List.replicate n 32)) :
    Calls Tryz.prog 138 #[.slice (some ⟨g, 0, none⟩) n c, .slice (some ⟨W.heap.size, 0, none⟩) 1 1, .slice (some ⟨W.heap.size + 1, 0, none⟩) 1 1] ((W.alloc (.cells #[.int .u8 32] 5)).alloc (.cells #[.int .u8 48] 5)) fun e w' => ∃ v', e = .returned v' ∧ SlE w' (fun j => W.heap.size ≤ j) v' (List.replicate n 48) ∧ Below W.heap.size W w' := by
  have hal : Below W.heap.size W ((W.alloc (.cells #[.int .u8 32] 5)).alloc (.cells #[.int .u8 48] 5)) := ((Below.refl _ _).alloc (Nat.le_refl _) _).alloc (by simp) _
  have k2 : Blk ((W.alloc (.cells #[.int .u8 32] 5)).alloc (.cells #[.int .u8 48] 5)) (W.heap.size + 1) #[.int .u8 48] 5 := by
    have := Blk.new (W.alloc (.cells #[.int .u8 32] 5)) #[.int .u8 48] 5
    simpa only [World.size_alloc] using this
  refine (replaceAllNou_any n hn g 0 c hc W.heap.size (W.heap.size + 1) _ (fun i hi => ?_) (((Blk.new W _ _).alloc _).cell 0 rfl) (k2.cell 0 rfl)).mono fun e w' ⟨v', he, hs, hb⟩ => ⟨v', he, hs.mono fun g _ hg => Nat.le_trans hal.size hg, hal.trans (hb.mono hal.size)⟩
  obtain ⟨p, c', e, hbs⟩ := hs.bs
  injection e with e1 e2 e3
  subst e1
  have h := hbs.at i (by simpa using hi)
  have h2 : (List.replicate n (32 : UInt8)).getD i 0 = 32 := by simp [List.getD_eq_getElem?_getD, hi]
  rw [h2] at h
  exact (hal.cell (p := ⟨g, 0 + i, none⟩) (World.block_lt_of_cell? _ _ h)).trans h

set_option maxRecDepth 100000 in
set_option maxHeartbeats 8000000 in
theorem formLine_a (fb : Nat) (sep : Bts) (wd : Nat) (hw : wd ≤ 100) (by_ at_ : Int) (N : Nat → Prop) (lv : Value) (l : Bts) (hl : (nlLine false true sep wd by_ at_ l).2.length ≤ 4294967296)  (w : World) (hlv : SlE w N lv l) (hN : ∀ g, N g → g ≠ fb) (h : FormSt fb false true sep wd by_ at_ w) :
    Calls Tryz.prog 88 #[.pointer (some ⟨fb, 0, none⟩), lv] w fun e w' => ∃ v, e = .returned v ∧ SlE w' (fun j => w.heap.size ≤ j) v (nlLine false true sep wd by_ at_ l).2 ∧ FormSt fb false true sep wd by_ (wrap64 (at_ + by_)) w' ∧ Kept (fun j => j = fb) w w' := by
  obtain ⟨hg, h1, h2, h8, hb⟩ := h
  have hnl : (nlLine false true sep wd by_ at_ l).2 = (List.replicate (wd - (Lib.itoa at_).length) 48 ++ Lib.itoa at_) ++ sep ++ l := by
    unfold nlLine
    rw [if_neg (by simp)]
    rfl
  rw [hnl] at hl ⊢
  have hil := Lib.itoa_length_le at_ h1 h2
  have hdg := digits_any at_ h1 h2 w hg
  obtain ⟨D, hD⟩ : ∃ D, Lib.itoa at_ = D := ⟨_, rfl⟩
  rw [hD] at hl hil hdg ⊢
  have hl2 : wd - D.length + D.length + sep.length + l.length ≤ 4294967296 := by simp at hl; omega
  have HL2 := Lib.hid hl2
  have hll : l.length ≤ 4294967296 := by omega
  obtain ⟨X, hX⟩ : ∃ X, List.replicate (wd - D.length) (48 : UInt8) = X := ⟨_, rfl⟩
  rw [hX]
  have HX := Lib.hid hX
  clear hnl hD hl hl2 hX
  obtain ⟨p, c, rfl, -⟩ := id hlv.bs
  have a3 := hb.cell 3 (v := .int .i64 at_) rfl
  have a0 := hb.cell 0 (v := .string ⟨#[97]⟩) rfl
  have HB := Lib.hid hb
  have HG := Lib.hid hg
  have HLV := Lib.hid hlv
  have HN := Lib.hid hN
  have HB8 := Lib.hid h8
  clear hg hlv hb hN h8
  go_enter Tryz.func88, Tryz.ntmps88
  go_wp2_with fail
  refine hdg.mono ?_
  rintro e w1 ⟨rfl, hb1⟩
  clear hdg
  obtain ⟨cd, w2, hcv, hcl, hb2, hbs, hlt⟩ := conv_facts D w1
  have hb12 := hb1.trans (hb2.mono hb1.size)
  have hbk2 := HB.out.keep hb12 HB.out.lt
  have b5 := hbk2.cell 5 (v := .int .i64 wd) rfl
  have hd2 : SlE w2 (fun g => w1.heap.size ≤ g) (.slice (some ⟨w1.heap.size, 0, none⟩) D.length cd) D := slE_conv hbs hlt hcl (Nat.le_refl _)
  have HD2 := Lib.hid hd2
  have HB12 := Lib.hid hb12
  have HB1 := Lib.hid hb1
  have HBK2 := Lib.hid hbk2
  clear hb1 hb2 hbs hb12 hbk2 hcl hlt hd2
  have hDn : D.length ≤ 21 := hil
  have ew : wrap64 ((wd : Int) - D.length) = (wd : Int) - D.length := by rw [w64_in]; omega
  have hgp := blanks_some ((wd : Int) - D.length) (by omega) (by omega) w2
  have eg : ((wd : Int) - D.length).toNat = wd - D.length := by omega
  rw [eg] at hgp
  clear eg
  go_wp2_with fail
  try rw [ew]
  refine hgp.mono ?_
  rintro e w3 ⟨v3, rfl, hs3, ⟨g3, k3, rfl, hk3⟩, hb3⟩
  clear hgp
  have hbk3 := HBK2.out.keep hb3 HBK2.out.lt
  have d3 := hbk3.cell 3 (v := .int .i64 at_) rfl
  have d4 := hbk3.cell 4 (v := .int .i64 by_) rfl
  have q3 := hbk3.free 3
  obtain ⟨w4, hw4⟩ : ∃ w4, (w3.setCell ⟨fb, 3, none⟩ (.int .i64 (IntKind.i64.wrap (at_ + by_)))).drew = w4 := ⟨_, rfl⟩
  have hbk4 : Blk w4 fb #[strV [97], strV sep, strV [114, 122], .int .i64 (wrap64 (at_ + by_)), .int .i64 by_, .int .i64 wd] 191 := by
    have hwe : IntKind.i64.wrap (at_ + by_) = wrap64 (at_ + by_) := by rw [IntKind.wrap_i64, wrap64]
    rw [← hw4, ← hwe]
    exact (hbk3.set 3 _).drew
  have hb13 : Below w.heap.size w w3 := HB12.out.trans (hb3.mono HB12.out.size)
  have hk34 : Kept (fun j => j = fb) w3 w4 := by
    rw [← hw4]
    exact ((Kept.refl (fun j => j = fb) w3).setCell (.inl rfl) 3 _).drew
  have hk4 : Kept (fun j => j = fb) w w4 := (Kept.of_below hb13).trans hk34
  have hg4 : Glo w4 := HG.out.kept hk4 (fun k e => by rw [e]; exact HB8.out)
  have hfl := HB.out.lt
  have hsg : SlE w4 (fun g => w2.heap.size ≤ g) (.slice (some ⟨g3, 0, none⟩) (wd - D.length) k3) (List.replicate (wd - D.length) 32) := by
    refine hs3.kept hk34 fun g _ hg e => ?_
    have h5 : w2.heap.size ≤ g := hg
    have := HB12.out.size
    omega
  have hsd : SlE w4 (fun g => w1.heap.size ≤ g) (.slice (some ⟨w1.heap.size, 0, none⟩) D.length cd) D := by
    refine (HD2.out.below hb3).kept hk34 fun g _ hg e => ?_
    have h5 : w1.heap.size ≤ g := hg
    have := HB1.out.size
    omega
  have hsl : SlE w4 N (.slice p l.length c) l := (HLV.out.below hb13).kept hk34 fun g _ hg e => HN.out g hg e
  have HBK4 := Lib.hid hbk4
  have HS := Lib.hid (And.intro hsg (And.intro hsd hsl))
  have HK4 := Lib.hid hk4
  have HG4 := Lib.hid hg4
  have HK3 := Lib.hid hk3
  clear hbk3 hb3 hs3 a3 b5 hbk4 hb13 hk34 hk4 hg4 hsg hsd hsl hk3 a0
  go_upto_region 5 with fail
  go_cut [52, 53, 54, 55, 56, 57, 58, 59, 60, 61, 62] (fun _ _ _ _ _ _ _ _ _ _ _ wx => wx = w4)
  case first =>
    go_region_with (fail)
    all_goals
      go_wp2_with fail
      go_meet
      try rfl
  case rest =>
    clear d3 d4 q3 hw4
    subst hcut
    obtain ⟨w5, hw5⟩ : ∃ w5, w5 = wc := ⟨_, rfl⟩
    subst hw5
    have c2 := HBK4.out.cell 2 (v := .string ⟨#[114, 122]⟩) rfl
    have hnou := nou_lit w5 (wd - D.length) (by omega) g3 k3 HK3.out _ HS.out.1
    go_wp2_with fail
    refine hnou.mono ?_
    rintro e w6 ⟨v6, rfl, hs6, hb6⟩
    clear hnou c2
    obtain ⟨p6, c6, h6, -⟩ := id hs6.bs
    rw [List.length_replicate] at h6
    subst h6
    have hj := join2_lit w6 _ _ _ _ _ _ hs6 (HS.out.2.1.below hb6) (by have := HL2.out; simp; omega)
    have HB6 := Lib.hid hb6
    clear hb6 hs6
    rw [HX.out] at hj
    have hXL : X.length = wd - D.length := by rw [← HX.out]; simp
    go_wp2_with fail
    refine hj.mono ?_
    rintro e w7 ⟨v7, rfl, hs7, hb7⟩
    clear hj 
    have hb57 := HB6.out.trans (hb7.mono HB6.out.size)
    obtain ⟨p7, c7, h7, -⟩ := id hs7.bs
    rw [List.length_append, hXL] at h7
    subst h7
    have hbk7 := HBK4.out.keep hb57 HBK4.out.lt
    have s1 := hbk7.cell 1 (v := .string ⟨sep.toArray⟩) rfl
    obtain ⟨cs, w8, hcs, hcsl, hb8, hbs8, hlt8⟩ := conv_facts sep w7
    have hb58 := hb57.trans (hb8.mono hb57.size)
    have hsp : SlE w8 (fun g => w7.heap.size ≤ g) (.slice (some ⟨w7.heap.size, 0, none⟩) sep.length cs) sep := slE_conv hbs8 hlt8 hcsl (Nat.le_refl _)
    have hj3 := join3_lit w8 _ _ _ _ _ _ _ _ _ (hs7.below hb8) hsp (HS.out.2.2.below hb58) (by have := HL2.out; simp; omega)
    have HB58 := Lib.hid hb58
    clear hs7 hb7 hb57 hbk7 hb8 hbs8 hlt8 hb58 hsp hcsl
    go_wp2_with fail
    refine hj3.mono ?_
    rintro e w9 ⟨v9, rfl, hs9, hb9⟩
    clear hj3
    have hb59 := HB58.out.trans (hb9.mono HB58.out.size)
    have HS9 := Lib.hid hs9
    have HB59 := Lib.hid hb59
    clear hs9 hb9 hb59
    go_wp2_with fail
    go_ret
    refine ⟨_, rfl, HS9.out.mono (fun g _ hg => ?_), ⟨HG4.out.below HB59.out, ?_, ?_, HB8.out, HBK4.out.keep HB59.out HBK4.out.lt⟩, HK4.out.trans (Kept.of_below HB59.out)⟩
    · have h5 : w8.heap.size ≤ g := hg
      have := HB58.out.size
      have := HK4.out.size
      omega
    · rw [wrap64]; omega
    · rw [wrap64]; omega

set_option maxRecDepth 100000 in
set_option maxHeartbeats 8000000 in
theorem formLine_t (fb : Nat) (sep : Bts) (wd : Nat) (hw : wd ≤ 100) (by_ at_ : Int) (N : Nat → Prop) (lv : Value) (l : Bts) (hl : (nlLine true false sep wd by_ at_ l).2.length ≤ 4294967296) (hne : l ≠ []) (w : World) (hlv : SlE w N lv l) (hN : ∀ g, N g → g ≠ fb) (h : FormSt fb true false sep wd by_ at_ w) :
    Calls Tryz.prog 88 #[.pointer (some ⟨fb, 0, none⟩), lv] w fun e w' => ∃ v, e = .returned v ∧ SlE w' (fun j => w.heap.size ≤ j) v (nlLine true false sep wd by_ at_ l).2 ∧ FormSt fb true false sep wd by_ (wrap64 (at_ + by_)) w' ∧ Kept (fun j => j = fb) w w' := by
  obtain ⟨hg, h1, h2, h8, hb⟩ := h
  have hnl : (nlLine true false sep wd by_ at_ l).2 = (List.replicate (wd - (Lib.itoa at_).length) 32 ++ Lib.itoa at_) ++ sep ++ l := by
    unfold nlLine
    rw [if_neg (by cases l with | nil => exact absurd rfl hne | cons c r => simp)]
    rfl
  rw [hnl] at hl ⊢
  have hil := Lib.itoa_length_le at_ h1 h2
  have hdg := digits_any at_ h1 h2 w hg
  obtain ⟨D, hD⟩ : ∃ D, Lib.itoa at_ = D := ⟨_, rfl⟩
  rw [hD] at hl hil hdg ⊢
  have hl2 : wd - D.length + D.length + sep.length + l.length ≤ 4294967296 := by simp at hl; omega
  have HL2 := Lib.hid hl2
  have hll : l.length ≤ 4294967296 := by omega
  obtain ⟨X, hX⟩ : ∃ X, List.replicate (wd - D.length) (32 : UInt8) = X := ⟨_, rfl⟩
  rw [hX]
  have HX := Lib.hid hX
  clear hnl hD hl hl2 hX
  obtain ⟨p, c, rfl, -⟩ := id hlv.bs
  have a3 := hb.cell 3 (v := .int .i64 at_) rfl
  have a0 := hb.cell 0 (v := .string ⟨#[116]⟩) rfl
  have HB := Lib.hid hb
  have HG := Lib.hid hg
  have HLV := Lib.hid hlv
  have HN := Lib.hid hN
  have HB8 := Lib.hid h8
  clear hg hlv hb hN h8
  have e0 : ((l.length : Int) == 0) = false := by
    cases l with
    | nil => exact absurd rfl hne
    | cons c r => simp; omega
  clear hne
  go_enter Tryz.func88, Tryz.ntmps88
  go_wp2_with fail
  refine hdg.mono ?_
  rintro e w1 ⟨rfl, hb1⟩
  clear hdg
  obtain ⟨cd, w2, hcv, hcl, hb2, hbs, hlt⟩ := conv_facts D w1
  have hb12 := hb1.trans (hb2.mono hb1.size)
  have hbk2 := HB.out.keep hb12 HB.out.lt
  have b5 := hbk2.cell 5 (v := .int .i64 wd) rfl
  have hd2 : SlE w2 (fun g => w1.heap.size ≤ g) (.slice (some ⟨w1.heap.size, 0, none⟩) D.length cd) D := slE_conv hbs hlt hcl (Nat.le_refl _)
  have HD2 := Lib.hid hd2
  have HB12 := Lib.hid hb12
  have HB1 := Lib.hid hb1
  have HBK2 := Lib.hid hbk2
  clear hb1 hb2 hbs hb12 hbk2 hcl hlt hd2
  have hDn : D.length ≤ 21 := hil
  have ew : wrap64 ((wd : Int) - D.length) = (wd : Int) - D.length := by rw [w64_in]; omega
  have hgp := blanks_some ((wd : Int) - D.length) (by omega) (by omega) w2
  have eg : ((wd : Int) - D.length).toNat = wd - D.length := by omega
  rw [eg] at hgp
  clear eg
  go_wp2_with fail
  try rw [ew]
  refine hgp.mono ?_
  rintro e w3 ⟨v3, rfl, hs3, ⟨g3, k3, rfl, hk3⟩, hb3⟩
  clear hgp
  have hbk3 := HBK2.out.keep hb3 HBK2.out.lt
  have d3 := hbk3.cell 3 (v := .int .i64 at_) rfl
  have d4 := hbk3.cell 4 (v := .int .i64 by_) rfl
  have q3 := hbk3.free 3
  obtain ⟨w4, hw4⟩ : ∃ w4, (w3.setCell ⟨fb, 3, none⟩ (.int .i64 (IntKind.i64.wrap (at_ + by_)))).drew = w4 := ⟨_, rfl⟩
  have hbk4 : Blk w4 fb #[strV [116], strV sep, strV [114, 110], .int .i64 (wrap64 (at_ + by_)), .int .i64 by_, .int .i64 wd] 191 := by
    have hwe : IntKind.i64.wrap (at_ + by_) = wrap64 (at_ + by_) := by rw [IntKind.wrap_i64, wrap64]
    rw [← hw4, ← hwe]
    exact (hbk3.set 3 _).drew
  have hb13 : Below w.heap.size w w3 := HB12.out.trans (hb3.mono HB12.out.size)
  have hk34 : Kept (fun j => j = fb) w3 w4 := by
    rw [← hw4]
    exact ((Kept.refl (fun j => j = fb) w3).setCell (.inl rfl) 3 _).drew
  have hk4 : Kept (fun j => j = fb) w w4 := (Kept.of_below hb13).trans hk34
  have hg4 : Glo w4 := HG.out.kept hk4 (fun k e => by rw [e]; exact HB8.out)
  have hfl := HB.out.lt
  have hsg : SlE w4 (fun g => w2.heap.size ≤ g) (.slice (some ⟨g3, 0, none⟩) (wd - D.length) k3) (List.replicate (wd - D.length) 32) := by
    refine hs3.kept hk34 fun g _ hg e => ?_
    have h5 : w2.heap.size ≤ g := hg
    have := HB12.out.size
    omega
  have hsd : SlE w4 (fun g => w1.heap.size ≤ g) (.slice (some ⟨w1.heap.size, 0, none⟩) D.length cd) D := by
    refine (HD2.out.below hb3).kept hk34 fun g _ hg e => ?_
    have h5 : w1.heap.size ≤ g := hg
    have := HB1.out.size
    omega
  have hsl : SlE w4 N (.slice p l.length c) l := (HLV.out.below hb13).kept hk34 fun g _ hg e => HN.out g hg e
  have HBK4 := Lib.hid hbk4
  have HS := Lib.hid (And.intro hsg (And.intro hsd hsl))
  have HK4 := Lib.hid hk4
  have HG4 := Lib.hid hg4
  have HK3 := Lib.hid hk3
  clear hbk3 hb3 hs3 a3 b5 hbk4 hb13 hk34 hk4 hg4 hsg hsd hsl hk3 a0
  go_upto_region 5 with fail
  go_cut [52, 53, 54, 55, 56, 57, 58, 59, 60, 61, 62] (fun _ _ _ _ _ _ _ _ _ _ _ wx => wx = w4)
  case first =>
    go_region_with (fail)
    all_goals
      go_wp2_with fail
      go_meet
      try rfl
  case rest =>
    clear d3 d4 q3 hw4
    subst hcut
    obtain ⟨w5, hw5⟩ : ∃ w5, w5 = wc := ⟨_, rfl⟩
    subst hw5
    have c2 := HBK4.out.cell 2 (v := .string ⟨#[114, 110]⟩) rfl
    have hj := join2_lit w5 _ _ _ _ _ _ HS.out.1 HS.out.2.1 (by have := HL2.out; simp; omega)
    have HB6 : Hid (Below w5.heap.size w5 w5) := Lib.hid (Below.refl _ _)
    rw [HX.out] at hj
    have hXL : X.length = wd - D.length := by rw [← HX.out]; simp
    go_wp2_with fail
    refine hj.mono ?_
    rintro e w7 ⟨v7, rfl, hs7, hb7⟩
    clear hj c2
    have hb57 := HB6.out.trans (hb7.mono HB6.out.size)
    obtain ⟨p7, c7, h7, -⟩ := id hs7.bs
    rw [List.length_append, hXL] at h7
    subst h7
    have hbk7 := HBK4.out.keep hb57 HBK4.out.lt
    have s1 := hbk7.cell 1 (v := .string ⟨sep.toArray⟩) rfl
    obtain ⟨cs, w8, hcs, hcsl, hb8, hbs8, hlt8⟩ := conv_facts sep w7
    have hb58 := hb57.trans (hb8.mono hb57.size)
    have hsp : SlE w8 (fun g => w7.heap.size ≤ g) (.slice (some ⟨w7.heap.size, 0, none⟩) sep.length cs) sep := slE_conv hbs8 hlt8 hcsl (Nat.le_refl _)
    have hj3 := join3_lit w8 _ _ _ _ _ _ _ _ _ (hs7.below hb8) hsp (HS.out.2.2.below hb58) (by have := HL2.out; simp; omega)
    have HB58 := Lib.hid hb58
    clear hs7 hb7 hb57 hbk7 hb8 hbs8 hlt8 hb58 hsp hcsl
    go_wp2_with fail
    refine hj3.mono ?_
    rintro e w9 ⟨v9, rfl, hs9, hb9⟩
    clear hj3
    have hb59 := HB58.out.trans (hb9.mono HB58.out.size)
    have HS9 := Lib.hid hs9
    have HB59 := Lib.hid hb59
    clear hs9 hb9 hb59
    go_wp2_with fail
    go_ret
    refine ⟨_, rfl, HS9.out.mono (fun g _ hg => ?_), ⟨HG4.out.below HB59.out, ?_, ?_, HB8.out, HBK4.out.keep HB59.out HBK4.out.lt⟩, HK4.out.trans (Kept.of_below HB59.out)⟩
    · have h5 : w8.heap.size ≤ g := hg
      have := HB58.out.size
      have := HK4.out.size
      omega
    · rw [wrap64]; omega
    · rw [wrap64]; omega

end Go.Proofs.YtbpcfjoebfbjmaaGreatDoor

/-
  form.line as a filter. Conditions: all lines numbered and noughts ahead, or those that are not empty and blanks; places and lengths.
-/
namespace Go.Proofs.YtbpcfjoebfbjmaaGreatDoor
open Go.RowKit Go.Shelf Go.Maps

theorem nlNo (a b c : Bts) (d e f : Int) (j i : Nat) (n : Int) (W : World) (h : Blk W j #[strV a, strV b, strV c, .int .i64 d, .int .i64 e, .int .i64 f] 191) : W.cell? ⟨j, i, none⟩ ≠ some (.int .u8 n) := by
  intro e
  rw [Lib.cell_of_heap h] at e
  rcases i with _ | _ | _ | _ | _ | _ | i <;> simp [strV] at e

theorem nl_filt {B : Nat} (hB : 8 ≤ B) (fb : Nat) (t : Bool) (sep : Bts) (wd : Nat) (hw : wd ≤ 100) (hws : wd + sep.length ≤ 8192) (by_ : Int) :
    Filt B 88 #[.pointer (some ⟨fb, 0, none⟩)] #[] (fun j => j = fb) (nlLine t (!t) sep wd by_) (fun s W => FormSt fb t (!t) sep wd by_ s W) (fun _ => True) where
  keep := fun _ W W' S h hk hS hb => ⟨h.1.kept hk fun j hj => Nat.le_trans hB (hb j hj), h.2.1, h.2.2.1, h.2.2.2.1, h.2.2.2.2.kept hk fun e => hS _ e rfl⟩
  lt := fun _ W h j hj => by rw [hj]; exact h.2.2.2.2.lt
  noByte := fun _ W h j hj i n => by
    rw [hj]
    obtain ⟨-, -, -, -, hb⟩ := h
    cases t
    · exact nlNo _ _ _ _ _ _ _ _ _ _ hb
    · exact nlNo _ _ _ _ _ _ _ _ _ _ hb
  call := fun s W lv L h hs _ _ hl => by
    cases t with
    | false => exact formLine_a fb sep wd hw by_ s _ lv L hl W hs (fun g hg e => hg e) h
    | true =>
      by_cases hne : L = []
      · subst hne
        obtain ⟨p, c, rfl, -⟩ := hs.bs
        refine (formLine_empty fb false sep wd hws by_ s p c W h).mono ?_
        rintro e W' ⟨v, he, hs', hb⟩
        have e1 : nlLine true (!true) sep wd by_ s [] = (s, List.replicate (wd + sep.length) 32) := by simp [nlLine]
        rw [e1]
        exact ⟨v, he, hs', ⟨h.1.below hb, h.2.1, h.2.2.1, h.2.2.2.1, h.2.2.2.2.keep hb h.2.2.2.2.lt⟩, Kept.of_below hb⟩
      · have e1 : (nlLine true (!true) sep wd by_ s L).1 = wrap64 (s + by_) := by
          unfold nlLine
          rw [if_neg (by cases L with | nil => exact absurd rfl hne | cons c r => simp)]
        rw [e1]
        exact formLine_t fb sep wd hw by_ s _ lv L hl hne W hs (fun g hg e => hg e) h

end Go.Proofs.YtbpcfjoebfbjmaaGreatDoor

/-
  The walk of nl's closure that reads a number. Conditions: options in memory; the number may be.
-/
namespace Go.Proofs.YtbpcfjoebfbjmaaGreatDoor
open Go.RowKit Go.Shelf Go.Maps

set_option maxRecDepth 100000 in
set_option maxHeartbeats 4000000 in
theorem nl1_any (L : List OptA) (c : UInt8) (without least most : Int) (hm0 : 0 ≤ most) (hm : most ≤ 2147483647) (p : Option Addr) (cap : Nat) (hcap : L.length ≤ cap) (hN : L.length ≤ 1000000) (hl : ∀ o ∈ L, o.2.length ≤ 1000000) (fb i lb gb : Nat) (w : World) (h : OptsAt w p L) (hg : Glo w) (n old : Int) (hn : numOpt L c without least most = (n, true))
    (c1 : w.cell? ⟨lb, 0, none⟩ = some (.slice p L.length cap)) (c2 : w.cell? ⟨gb, 0, none⟩ = some (.bool true)) (f2 : w.frozen? ⟨gb, 0, none⟩ = false) (c3 : w.cell? ⟨fb, i, none⟩ = some (.int .i64 old)) (f3 : w.frozen? ⟨fb, i, none⟩ = false) (hne : fb ≠ gb) :
    Calls Tryz.prog 84 #[.int .u8 c.toNat, .pointer (some ⟨fb, i, none⟩), .int .i64 without, .int .i64 least, .int .i64 most, .pointer (some ⟨lb, 0, none⟩), .pointer (some ⟨gb, 0, none⟩)] w fun e w' => (∃ v, e = .returned v) ∧ ∃ w1, Below w.heap.size w w1 ∧ w' = (w1.setCell ⟨fb, i, none⟩ (.int .i64 n)).setCell ⟨gb, 0, none⟩ (.bool true) := by
  have hnum := numOpt_any L c without least most hm0 hm p cap hcap hN hl w h hg
  rw [hn] at hnum
  have l2 := World.block_lt_of_cell? _ _ c2
  have l3 := World.block_lt_of_cell? _ _ c3
  have H2 := Lib.hid (And.intro c2 f2)
  have H3 := Lib.hid (And.intro c3 f3)
  clear h hg hn c2 f2 c3 f3 hl
  go_enter Tryz.func84, Tryz.ntmps84
  go_wp2_with fail
  refine hnum.mono ?_
  rintro e w1 ⟨rfl, hb⟩
  have a2 : w1.cell? ⟨gb, 0, none⟩ = some (.bool true) := (hb.cell (p := ⟨gb, 0, none⟩) l2).trans H2.out.1
  have a3 : w1.cell? ⟨fb, i, none⟩ = some (.int .i64 old) := (hb.cell (p := ⟨fb, i, none⟩) l3).trans H3.out.1
  have g2 : w1.frozen? ⟨gb, 0, none⟩ = false := (hb.frozen (p := ⟨gb, 0, none⟩) l2).trans H2.out.2
  have g3 : w1.frozen? ⟨fb, i, none⟩ = false := (hb.frozen (p := ⟨fb, i, none⟩) l3).trans H3.out.2
  have hne2 : gb ≠ fb := fun e => hne e.symm
  have HB := Lib.hid hb
  clear hb hnum c1
  go_wp2_with fail
  exact bodyPost_end (results_none rfl _ _ _) rfl ⟨⟨_, rfl⟩, w1, HB.out, rfl⟩

/-- What nl's closure of words allows: any word, or one of a list in memory. -/
def MayAt (w : World) (fb : Nat) (mv : Value) (s : Bts) : Prop := mv = .slice none 0 0 ∨ ∃ mb n c zs, mv = .slice (some ⟨mb, 0, none⟩) (n + 1) c ∧ zs.length = n + 1 ∧ n ≤ 1000 ∧ mb ≠ fb ∧ mb < w.heap.size ∧ Lib.containsS zs ⟨s.toArray⟩ = true ∧ ∀ j, j < zs.length → w.cell? ⟨mb, 0 + j, none⟩ = some (.string (zs.getD j ByteArray.empty))

set_option maxRecDepth 100000 in
set_option maxHeartbeats 4000000 in
theorem nl2_none (L : List OptA) (c : UInt8) (mv : Value) (p : Option Addr) (cap : Nat) (hcap : L.length ≤ cap) (hN : L.length ≤ 1000000) (fb i lb gb : Nat) (w : World) (h : OptsAt w p L) (hn : Op.last L c = none)
    (c1 : w.cell? ⟨lb, 0, none⟩ = some (.slice p L.length cap)) :
    Calls Tryz.prog 85 #[.int .u8 c.toNat, .pointer (some ⟨fb, i, none⟩), mv, .pointer (some ⟨lb, 0, none⟩), .pointer (some ⟨gb, 0, none⟩)] w fun e w' => (∃ v, e = .returned v) ∧ Below w.heap.size w w' := by
  have hla := last_any L c p cap hcap hN w h
  rw [hn] at hla
  simp only [lastV] at hla
  clear h hn
  go_enter Tryz.func85, Tryz.ntmps85
  go_wp2_with fail
  refine hla.mono ?_
  rintro e w1 ⟨rfl, hb⟩
  clear hla
  go_wp2_with fail
  exact bodyPost_end (results_none rfl _ _ _) rfl ⟨⟨_, rfl⟩, hb⟩

set_option maxRecDepth 100000 in
set_option maxHeartbeats 4000000 in
theorem nl2_some (L : List OptA) (c : UInt8) (mv : Value) (s : Bts) (p : Option Addr) (cap : Nat) (hcap : L.length ≤ cap) (hN : L.length ≤ 1000000) (fb i lb gb : Nat) (w : World) (h : OptsAt w p L) (hn : Op.last L c = some s) (hmv : MayAt w fb mv s) (old : Bts)
    (c1 : w.cell? ⟨lb, 0, none⟩ = some (.slice p L.length cap)) (c2 : w.cell? ⟨gb, 0, none⟩ = some (.bool true)) (f2 : w.frozen? ⟨gb, 0, none⟩ = false) (c3 : w.cell? ⟨fb, i, none⟩ = some (strV old)) (f3 : w.frozen? ⟨fb, i, none⟩ = false) (hne : fb ≠ gb) :
    Calls Tryz.prog 85 #[.int .u8 c.toNat, .pointer (some ⟨fb, i, none⟩), mv, .pointer (some ⟨lb, 0, none⟩), .pointer (some ⟨gb, 0, none⟩)] w fun e w' => (∃ v, e = .returned v) ∧ ∃ w1, Below w.heap.size w w1 ∧ w' = (w1.setCell ⟨fb, i, none⟩ (strV s)).setCell ⟨gb, 0, none⟩ (.bool true) := by
  have hla := last_any L c p cap hcap hN w h
  rw [hn] at hla
  simp only [lastV] at hla
  unfold strV at *
  have l2 := World.block_lt_of_cell? _ _ c2
  have l3 := World.block_lt_of_cell? _ _ c3
  have H2 := Lib.hid (And.intro c2 f2)
  have H3 := Lib.hid (And.intro c3 f3)
  clear h hn c2 f2 c3 f3
  rcases hmv with rfl | ⟨mb, n, cm, zs, rfl, hzl, hn1, hmf, hml, hcon, hcs⟩
  · go_enter Tryz.func85, Tryz.ntmps85
    go_wp2_with fail
    refine hla.mono ?_
    rintro e w1 ⟨rfl, hb⟩
    have a2 : w1.cell? ⟨gb, 0, none⟩ = some (.bool true) := (hb.cell (p := ⟨gb, 0, none⟩) l2).trans H2.out.1
    have a3 : w1.cell? ⟨fb, i, none⟩ = some (.string ⟨old.toArray⟩) := (hb.cell (p := ⟨fb, i, none⟩) l3).trans H3.out.1
    have g2 : w1.frozen? ⟨gb, 0, none⟩ = false := (hb.frozen (p := ⟨gb, 0, none⟩) l2).trans H2.out.2
    have g3 : w1.frozen? ⟨fb, i, none⟩ = false := (hb.frozen (p := ⟨fb, i, none⟩) l3).trans H3.out.2
    have hne2 : gb ≠ fb := fun e => hne e.symm
    have HB := Lib.hid hb
    clear hb hla c1
    go_wp2_with fail
    exact bodyPost_end (results_none rfl _ _ _) rfl ⟨⟨_, rfl⟩, w1, HB.out, rfl⟩
  · have hz : (((n : Int) + 1) == 0) = false := by simp; omega
    have hz2 : (((n + 1 : Nat) : Int) == 0) = false := by simp; omega
    have HCS := Lib.hid hcs
    have HCON := Lib.hid hcon
    have HZL := Lib.hid hzl
    clear hcs hcon hzl
    go_enter Tryz.func85, Tryz.ntmps85
    go_wp2_with fail
    refine hla.mono ?_
    rintro e w1 ⟨rfl, hb⟩
    have a2 : w1.cell? ⟨gb, 0, none⟩ = some (.bool true) := (hb.cell (p := ⟨gb, 0, none⟩) l2).trans H2.out.1
    have a3 : w1.cell? ⟨fb, i, none⟩ = some (.string ⟨old.toArray⟩) := (hb.cell (p := ⟨fb, i, none⟩) l3).trans H3.out.1
    have g2 : w1.frozen? ⟨gb, 0, none⟩ = false := (hb.frozen (p := ⟨gb, 0, none⟩) l2).trans H2.out.2
    have g3 : w1.frozen? ⟨fb, i, none⟩ = false := (hb.frozen (p := ⟨fb, i, none⟩) l3).trans H3.out.2
    have hne2 : gb ≠ fb := fun e => hne e.symm
    have hk : Kept (fun j => j = fb) w1 (w1.setCell ⟨fb, i, none⟩ (.string ⟨s.toArray⟩)) := (Kept.refl (fun j => j = fb) w1).setCell (.inl rfl) i _
    have hco := Any.slices_Contains_string Tryz.lays110 mb 0 (n + 1) cm zs ⟨s.toArray⟩ (w1.setCell ⟨fb, i, none⟩ (.string ⟨s.toArray⟩)) (by rw [HZL.out]; exact Nat.le_refl _) (by omega) (fun j hj => (World.cell?_of_block (hk.block mb (Nat.lt_of_lt_of_le hml hb.size) hmf)).trans ((hb.cell (p := ⟨mb, 0 + j, none⟩) hml).trans (HCS.out j hj)))
    rw [List.take_of_length_le (by rw [HZL.out]; exact Nat.le_refl _), HCON.out] at hco
    have HB := Lib.hid hb
    have HCO := Lib.hid hco
    clear hb hla c1 hk hco
    go_wp2_with fail
    refine HCO.out.mono ?_
    rintro e w3 ⟨rfl, rfl⟩
    go_wp2_with fail
    exact bodyPost_end (results_none rfl _ _ _) rfl ⟨⟨_, rfl⟩, w1, HB.out, rfl⟩

end Go.Proofs.YtbpcfjoebfbjmaaGreatDoor

/-
  What nl's options make of its form, one by one. Conditions: options in memory; they may be.
-/
namespace Go.Proofs.YtbpcfjoebfbjmaaGreatDoor
open Go.RowKit Go.Shelf Go.Maps

theorem OptsAt.kept {S : Nat → Prop} {w w' : World} {p : Option Addr} {l : List (UInt8 × Bts)} (h : OptsAt w p l) (hk : Kept S w w') (hS : ∀ a, p = some a → ¬ S a.block) : OptsAt w' p l := fun h0 => by
  obtain ⟨b, o, e, hlt, hc⟩ := h h0
  have hb : w'.heap[b]? = w.heap[b]? := hk.block b hlt (hS _ e)
  exact ⟨b, o, e, Nat.lt_of_lt_of_le hlt hk.size, fun i hi => ⟨(World.cell?_of_block hb).trans (hc i hi).1, (World.cell?_of_block hb).trans (hc i hi).2⟩⟩

/-- nl's form, flag and options in memory. -/
structure NlSt (W : World) (fb gb lb : Nat) (p : Option Addr) (cap : Nat) (L : List OptA) (cs : Array Value) : Prop where
  form : Blk W fb cs 191
  good : Blk W gb #[.bool true] 4
  opts : Blk W lb #[.slice p L.length cap] 177
  at_ : OptsAt W p L
  apart : ∀ a, p = some a → ¬ (a.block = fb ∨ a.block = gb)
  glo : Glo W
  big : 8 ≤ fb ∧ 8 ≤ gb
  ne : fb ≠ gb ∧ lb ≠ fb ∧ lb ≠ gb

theorem NlSt.below {W W' : World} {fb gb lb : Nat} {p : Option Addr} {cap : Nat} {L : List OptA} {cs : Array Value} (h : NlSt W fb gb lb p cap L cs) (hb : Below W.heap.size W W') : NlSt W' fb gb lb p cap L cs :=
  ⟨h.form.keep hb h.form.lt, h.good.keep hb h.good.lt, h.opts.keep hb h.opts.lt, h.at_.below hb, h.apart, h.glo.below hb, h.big, h.ne⟩

theorem NlSt.stored {W : World} {fb gb lb : Nat} {p : Option Addr} {cap : Nat} {L : List OptA} {cs : Array Value} (h : NlSt W fb gb lb p cap L cs) (i : Nat) (v : Value) :
    NlSt ((W.setCell ⟨fb, i, none⟩ v).setCell ⟨gb, 0, none⟩ (.bool true)) fb gb lb p cap L (cs.setIfInBounds i v) ∧ Kept (fun j => j = fb ∨ j = gb) W ((W.setCell ⟨fb, i, none⟩ v).setCell ⟨gb, 0, none⟩ (.bool true)) := by
  have hk : Kept (fun j => j = fb ∨ j = gb) W ((W.setCell ⟨fb, i, none⟩ v).setCell ⟨gb, 0, none⟩ (.bool true)) := ((Kept.refl (fun j => j = fb ∨ j = gb) W).setCell (.inl (.inl rfl)) i v).setCell (.inl (.inr rfl)) 0 _
  refine ⟨⟨(h.form.set i v).setOther (a := ⟨gb, 0, none⟩) h.ne.1 _, ?_, h.opts.kept hk (by rintro (e | e); exact h.ne.2.1 e; exact h.ne.2.2 e), h.at_.kept hk h.apart, h.apart, h.glo.kept hk (by rintro k (rfl | rfl); exact h.big.1; exact h.big.2), h.big, h.ne⟩, hk⟩
  have := (h.good.setOther (a := ⟨fb, i, none⟩) (Ne.symm h.ne.1) v).set 0 (.bool true)
  simpa using this

theorem nl1_st (L : List OptA) (c : UInt8) (without least most : Int) (hm0 : 0 ≤ most) (hm : most ≤ 2147483647) (p : Option Addr) (cap : Nat) (hcap : L.length ≤ cap) (hN : L.length ≤ 1000000) (hl : ∀ o ∈ L, o.2.length ≤ 1000000) (fb i lb gb : Nat) (cs : Array Value) (w : World) (h : NlSt w fb gb lb p cap L cs) (n old : Int) (hn : numOpt L c without least most = (n, true)) (ho : cs[i]? = some (.int .i64 old)) :
    Calls Tryz.prog 84 #[.int .u8 c.toNat, .pointer (some ⟨fb, i, none⟩), .int .i64 without, .int .i64 least, .int .i64 most, .pointer (some ⟨lb, 0, none⟩), .pointer (some ⟨gb, 0, none⟩)] w fun e w' => (∃ v, e = .returned v) ∧ NlSt w' fb gb lb p cap L (cs.setIfInBounds i (.int .i64 n)) ∧ Kept (fun j => j = fb ∨ j = gb) w w' := by
  refine (nl1_any L c without least most hm0 hm p cap hcap hN hl fb i lb gb w h.at_ h.glo n old hn (h.opts.cell 0 rfl) (h.good.cell 0 rfl) (h.good.free 0) (h.form.cell i ho) (h.form.free i) h.ne.1).mono ?_
  rintro e w' ⟨hv, w1, hb, rfl⟩
  obtain ⟨h1, h2⟩ := (h.below hb).stored i (.int .i64 n)
  exact ⟨hv, h1, (Kept.of_below hb).trans h2⟩

/-- What a word's option leaves. -/
def wordCs (cs : Array Value) (i : Nat) : Option Bts → Array Value
  | none => cs
  | some s => cs.setIfInBounds i (strV s)

theorem nl2_st (L : List OptA) (c : UInt8) (mv : Value) (p : Option Addr) (cap : Nat) (hcap : L.length ≤ cap) (hN : L.length ≤ 1000000) (fb i lb gb : Nat) (cs : Array Value) (w : World) (h : NlSt w fb gb lb p cap L cs) (old : Bts) (ho : cs[i]? = some (strV old)) (hmv : ∀ s, Op.last L c = some s → MayAt w fb mv s) :
    Calls Tryz.prog 85 #[.int .u8 c.toNat, .pointer (some ⟨fb, i, none⟩), mv, .pointer (some ⟨lb, 0, none⟩), .pointer (some ⟨gb, 0, none⟩)] w fun e w' => (∃ v, e = .returned v) ∧ NlSt w' fb gb lb p cap L (wordCs cs i (Op.last L c)) ∧ Kept (fun j => j = fb ∨ j = gb) w w' := by
  cases hop : Op.last L c with
  | none =>
    refine (nl2_none L c mv p cap hcap hN fb i lb gb w h.at_ hop (h.opts.cell 0 rfl)).mono ?_
    rintro e w' ⟨hv, hb⟩
    exact ⟨hv, h.below hb, Kept.of_below hb⟩
  | some s =>
    refine (nl2_some L c mv s p cap hcap hN fb i lb gb w h.at_ hop (hmv s hop) old (h.opts.cell 0 rfl) (h.good.cell 0 rfl) (h.good.free 0) (h.form.cell i ho) (h.form.free i) h.ne.1).mono ?_
    rintro e w' ⟨hv, w1, hb, rfl⟩
    obtain ⟨h1, h2⟩ := (h.below hb).stored i (strV s)
    exact ⟨hv, h1, (Kept.of_below hb).trans h2⟩

end Go.Proofs.YtbpcfjoebfbjmaaGreatDoor
