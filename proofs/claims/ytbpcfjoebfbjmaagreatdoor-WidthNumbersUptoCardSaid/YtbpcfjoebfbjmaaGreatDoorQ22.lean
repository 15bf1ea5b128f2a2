/-
  Texts of this seat put together: V16, V17, V18, Dig, V19.
-/
import Derived.Test.YtbpcfjoebfbjmaaGreatDoorQ20
import Derived.Test.YtbpcfjoebfbjmaaGreatDoorQ21
import Derived.Test.YtbpcfjoebfbjmaaGreatDoorQ12
import Derived.Test.YtbpcfjoebfbjmaaGreatDoorQ11
import Derived.Test.YtbpcfjoebfbjmaaGreatDoorQ13
import Derived.Deep.OwnRows
import Derived.Shelf.Bytes.SlCountOne
import Derived.Shelf.Bytes.SlIndexSmall
import Derived.Test.YtbpcfjoebfbjmaaGreatDoorQ3
import Derived.Test.YtbpcfjoebfbjmaaGreatDoorQ2

/-
  The walks of width's expand and unexpand, and how they start. Conditions: their options are read, no operands; stops of one distance (AskedC); no backspace; lengths.
-/
namespace Go.Proofs.YtbpcfjoebfbjmaaGreatDoor
open Go.RowKit Go.Shelf Go.Maps

/-- What asked hands back: one distance. -/
def AskPost (s : Nat) (w : World) (e : Ending) (w' : World) : Prop :=
  ∃ b cc, e = .returned (.tuple #[.slice (some ⟨b, 0, none⟩) 1 cc, .bool true]) ∧ 1 ≤ cc ∧ w.heap.size ≤ b ∧ w'.cell? ⟨b, 0, none⟩ = some (.int .i64 s) ∧ (∀ i n, w'.cell? ⟨b, i, none⟩ ≠ some (.int .u8 n)) ∧ Below w.heap.size w w'
def AskedC (L : List OptA) (s : Nat) : Prop := ∀ (p : Option Addr) (cap : Nat) (w : World), L.length ≤ cap → OptsAt w p L → Glo w →
  Calls Tryz.prog 81 #[.slice p L.length cap] w fun e w' => AskPost s w e w'

set_option maxRecDepth 100000 in
theorem expander_any (b cc : Nat) (w : World) :
    Calls Tryz.prog 82 #[.slice (some ⟨b, 0, none⟩) 1 cc] w fun e w' => e = .returned (.func (.func 131) #[] #[.pointer (some ⟨w.heap.size, 0, none⟩)]) ∧ Blk w' w.heap.size #[.slice (some ⟨b, 0, none⟩) 1 cc] 30 ∧ Below w.heap.size w w' := by
  have hmf : ∀ (fn : Fn) (first cap : Array Value) (w : World), (Instr.makeFunc fn first cap).run Tryz.prog w = .ok (.func fn first cap) w := fun _ _ _ _ => rfl
  obtain ⟨w1, hw1⟩ : ∃ w1, w.alloc (.cells #[.slice (some ⟨b, 0, none⟩) 1 cc] 30) = w1 := ⟨_, rfl⟩
  have HB : Hid (Below w.heap.size w w1) := Lib.hid (by rw [← hw1]; exact (Below.refl _ _).alloc (Nat.le_refl _) _)
  have HS : Hid (Blk w1 w.heap.size #[.slice (some ⟨b, 0, none⟩) 1 cc] 30) := Lib.hid (by rw [← hw1]; exact Blk.new _ _ _)
  go_enter Tryz.func82, Tryz.ntmps82
  go_wp2_with fail
  try rw [hw1]
  go_ret
  exact ⟨rfl, HS.out, HB.out⟩

set_option maxRecDepth 100000 in
theorem unexpander_any (b cc : Nat) (w : World) :
    Calls Tryz.prog 83 #[.slice (some ⟨b, 0, none⟩) 1 cc, .bool true] w fun e w' => e = .returned (.func (.func 134) #[] #[.pointer (some ⟨w.heap.size + 1, 0, none⟩), .pointer (some ⟨w.heap.size, 0, none⟩)]) ∧ Blk w' w.heap.size #[.slice (some ⟨b, 0, none⟩) 1 cc] 30 ∧ Blk w' (w.heap.size + 1) #[.bool true] 4 ∧ Below w.heap.size w w' := by
  have hmf : ∀ (fn : Fn) (first cap : Array Value) (w : World), (Instr.makeFunc fn first cap).run Tryz.prog w = .ok (.func fn first cap) w := fun _ _ _ _ => rfl
  obtain ⟨w1, hw1⟩ : ∃ w1, (w.alloc (.cells #[.slice (some ⟨b, 0, none⟩) 1 cc] 30)).alloc (.cells #[.bool true] 4) = w1 := ⟨_, rfl⟩
  have HB : Hid (Below w.heap.size w w1) := Lib.hid (by rw [← hw1]; exact ((Below.refl _ _).alloc (Nat.le_refl _) _).alloc (by simp) _)
  have HS : Hid (Blk w1 w.heap.size #[.slice (some ⟨b, 0, none⟩) 1 cc] 30) := Lib.hid (by rw [← hw1]; exact (Blk.new _ _ _).alloc _)
  have HS2 : Hid (Blk w1 (w.heap.size + 1) #[.bool true] 4) := Lib.hid (by
    rw [← hw1]
    have := Blk.new (w.alloc (.cells #[.slice (some ⟨b, 0, none⟩) 1 cc] 30)) #[.bool true] 4
    simpa only [World.size_alloc] using this)
  go_enter Tryz.func83, Tryz.ntmps83
  go_wp2_with fail
  try rw [hw1]
  go_ret
  exact ⟨rfl, HS.out, HS2.out, HB.out⟩

set_option maxRecDepth 100000 in
set_option maxHeartbeats 8000000 in
theorem expand_any (F : Fx) (M : Nat → Prop) (inp a0 : Bts) (rest : List Bts) (ha : F.args = a0 :: rest) (hrest : rest ≠ []) (htot : totL rest ≤ 1000000) (ha0 : a0.length ≤ 1000000) (L : List OptA) (hp : Op.parse [116, 58] rest = some (L, [])) (hL0 : 0 < L.length)
    (s : Nat) (hA : AskedC L s) (hs1 : 1 ≤ s) (hs2 : s ≤ 255) (hg : Glo F.w0) (hok : ∀ c ∈ inp, c ≠ 8) (hbig : (Wi.runs (Wi.still (Wi.expand s)) F.line () inp).1.length ≤ 4294967296) (w : World) (h : PrAt w F M inp [] []) :
    Calls Tryz.prog 49 #[.pointer (some ⟨F.p, 0, none⟩)] w fun e w' => MainPost F M a0 (Wi.runs (Wi.still (Wi.expand s)) F.line () inp) w e w' := by
  have hargs := args_any F M inp [] [] w h
  rw [ha] at hargs
  have hgw : Glo w := hg.from h.fix.old
  generalize hR : Wi.runs (Wi.still (Wi.expand s)) F.line () inp = R at *
  have H := Lib.hid h
  have HG := Lib.hid hgw
  have HR := Lib.hid hR
  have HP := Lib.hid hp
  have HOK := Lib.hid hok
  have HA := Lib.hid hA
  have hr1 : 1 ≤ rest.length := List.length_pos_iff.2 hrest
  clear h hg hgw hR hp hok hA hrest
  go_enter Tryz.func49, Tryz.ntmps49
  go_wp2_with fail
  refine hargs.mono ?_
  rintro e w1 ⟨v, rfl, ho1, hb1⟩
  clear hargs
  obtain ⟨g, c, rfl, hcl, -, hgl, hc⟩ := strs_cell ho1 0 (by simp)
  have hss : Ss w1 (some ⟨g, 1, none⟩) rest := fun _ => ⟨g, 1, rfl, fun i hi => by
    have := hc (i + 1) (by simp; omega)
    rw [Nat.add_comm 1 i, this]
    simp⟩
  simp only [List.length_cons] at hcl
  have hpa := parse_any [116, 58] (by decide) rest (some ⟨g, 1, none⟩) (c - 1) (by omega) htot w1 hss
  rw [HP.out] at hpa
  have f1 : (1 : Int) ≤ c := by omega
  have f2 : 1 ≤ c := by omega
  have f3 : ¬ c - 1 = 0 := by omega
  have f4 : ¬ c = 1 := by omega
  have f5 : ¬ c ≤ 1 := by omega
  have HB1 := Lib.hid hb1
  clear ho1 hb1 hc hss
  go_wp2_with fail
  refine hpa.mono ?_
  rintro e w2 ⟨hb2, lv, ov, rfl, hl2, ho2⟩
  obtain ⟨pl, cl, rfl, hlc, hat⟩ := hl2.at_
  obtain ⟨po, co, hov⟩ := strs_shape ho2
  simp only [List.length_nil] at hov
  subst hov
  have hgl2 : Glo w2 := (HG.out.below HB1.out).below hb2
  have hask := HA.out pl cl w2 hlc hat hgl2
  have HB2 := Lib.hid hb2
  clear hpa hb2 hl2 ho2 hat hgl2 f1 f2 f3 f4 f5
  go_wp2_with fail
  refine hask.mono ?_
  rintro e w5 ⟨b, cc, rfl, hcc, hbn, hone, hno, hb5⟩
  clear hask
  have hmk := expander_any b cc w5
  have HB5 := Lib.hid hb5
  have HONE := Lib.hid (And.intro hone hno)
  have HBN := Lib.hid hbn
  have e9 : decide (0 < L.length) = true := decide_eq_true hL0
  clear hb5 hone hno hbn
  go_wp2_with fail
  refine hmk.mono ?_
  rintro e w6 ⟨rfl, hk6, hb6⟩
  clear hmk
  have hbt2 : Below w.heap.size w w2 := HB1.out.trans (HB2.out.mono HB1.out.size)
  have hbt : Below w.heap.size w w5 := hbt2.trans (HB5.out.mono hbt2.size)
  have hbw : Below w.heap.size w w6 := hbt.trans (hb6.mono hbt.size)
  have hpr6 := H.out.below hbw
  have hbl : b < w5.heap.size := World.block_lt_of_cell? w5 ⟨b, 0, none⟩ HONE.out.1
  have hst6 : StopsSt w5.heap.size b cc s w6 := ⟨hk6, (hb6.cell (p := ⟨b, 0, none⟩) hbl).trans HONE.out.1, fun i n => by rw [hb6.cell (p := ⟨b, i, none⟩) hbl]; exact HONE.out.2 i n⟩
  have hent : ∀ (args : Array Value) (w : World), (callFunc 131 args).run Tryz.prog w = .ok (.enter 131 args) w := enters_of Tryz.func131 (by kernel_rfl) rfl
  have hrn := runs_any 131 hent _ _ _ _ _ _ F (expand_filt w5.heap.size b cc s hs1 hs2 hcc) M inp [] [] a0 rest ha ha0 (by simp) () po co w6 hpr6 hst6 (fun j hj => by
    have := H.out.n0
    have := hbt.size
    have := hbt2.size
    have := HBN.out
    refine ⟨by omega, fun hm => ?_⟩
    have := H.out.lt j hm
    omega) HOK.out (by rw [HR.out, List.nil_append]; exact hbig)
  rw [HR.out] at hrn
  have HBW := Lib.hid hbw
  have HBT := Lib.hid (And.intro hbt hbt2)
  clear hst6 hb6 hk6 hbt hbt2 hbw hpr6 hent
  go_wp2_with fail
  refine hrn.mono ?_
  rintro e w7 ⟨inp', M', rfl, hp7, hk7, hm7⟩
  clear hrn
  have hfin : MainPost F M a0 R w (.returned (.int .i64 (if R.2 then 0 else 1))) w7 := by
    refine ⟨inp', M', rfl, by simpa using hp7, ⟨(Kept.of_below HBW.out).trans' hk7 fun k hk e => ?_, fun j hj => ?_⟩⟩
    · have := HBT.out.1.size
      have := HBT.out.2.size
      have := HBN.out
      rcases e with e | e
      · exact e
      · omega
    · rcases hm7 j hj with e | e
      · exact .inl e
      · have := HBW.out.size; exact .inr (by omega)
  generalize (if R.2 then (0 : Int) else 1) = st at *
  have HFIN := Lib.hid hfin
  clear hp7 hk7 hm7 hfin
  go_wp2_with fail
  go_ret
  exact HFIN.out

theorem starts_expand (w1 : World) (hg : Glo w1) (rest : List Bts) (hrest : rest ≠ []) (htot : totL rest ≤ 1000000) (L : List OptA) (hp : Op.parse [116, 58] rest = some (L, [])) (hL0 : 0 < L.length) (s : Nat) (hA : AskedC L s) (hs1 : 1 ≤ s) (hs2 : s ≤ 255) (inp : Bts) (hok : ∀ c ∈ inp, c ≠ 8) (buf line run : Nat) (hbig : (Wi.runs (Wi.still (Wi.expand s)) line () inp).1.length ≤ 4294967296) :
    Starts w1 27 ([101, 120, 112, 97, 110, 100] :: rest) buf line run inp (EndQ [101, 120, 112, 97, 110, 100] (Wi.runs (Wi.still (Wi.expand s)) line () inp)) := by
  intro F M ha _ hline _ hw0
  subst hw0
  subst hline
  refine ⟨49, enters_of Tryz.func49 (by kernel_rfl) rfl, fun W hW => ?_, fun W hW => ?_⟩
  · exact start_expand F M inp rest ha W hW
  · exact (expand_any F M inp _ rest ha hrest htot (by decide) L hp hL0 s hA hs1 hs2 hg hok hbig W hW).mono fun e w' h => EndQ.of h

set_option maxRecDepth 100000 in
set_option maxHeartbeats 8000000 in
theorem unexpand_any (F : Fx) (M : Nat → Prop) (inp a0 : Bts) (rest : List Bts) (ha : F.args = a0 :: rest) (hrest : rest ≠ []) (htot : totL rest ≤ 1000000) (ha0 : a0.length ≤ 1000000) (L : List OptA) (hp : Op.parse [97, 116, 58] rest = some (L, [])) (hL0 : 0 < L.length)
    (s : Nat) (hA : AskedC L s) (hs1 : 1 ≤ s) (hs2 : s ≤ 255) (hg : Glo F.w0) (hok : ∀ c ∈ inp, c ≠ 8) (hbig : (Wi.runs (Wi.still (Wi.unexpand s)) F.line () inp).1.length ≤ 4294967296) (w : World) (h : PrAt w F M inp [] []) :
    Calls Tryz.prog 50 #[.pointer (some ⟨F.p, 0, none⟩)] w fun e w' => MainPost F M a0 (Wi.runs (Wi.still (Wi.unexpand s)) F.line () inp) w e w' := by
  have hargs := args_any F M inp [] [] w h
  rw [ha] at hargs
  have hgw : Glo w := hg.from h.fix.old
  generalize hR : Wi.runs (Wi.still (Wi.unexpand s)) F.line () inp = R at *
  have H := Lib.hid h
  have HG := Lib.hid hgw
  have HR := Lib.hid hR
  have HP := Lib.hid hp
  have HOK := Lib.hid hok
  have HA := Lib.hid hA
  have hr1 : 1 ≤ rest.length := List.length_pos_iff.2 hrest
  clear h hg hgw hR hp hok hA hrest
  go_enter Tryz.func50, Tryz.ntmps50
  go_wp2_with fail
  refine hargs.mono ?_
  rintro e w1 ⟨v, rfl, ho1, hb1⟩
  clear hargs
  obtain ⟨g, c, rfl, hcl, -, hgl, hc⟩ := strs_cell ho1 0 (by simp)
  have hss : Ss w1 (some ⟨g, 1, none⟩) rest := fun _ => ⟨g, 1, rfl, fun i hi => by
    have := hc (i + 1) (by simp; omega)
    rw [Nat.add_comm 1 i, this]
    simp⟩
  simp only [List.length_cons] at hcl
  have hpa := parse_any [97, 116, 58] (by decide) rest (some ⟨g, 1, none⟩) (c - 1) (by omega) htot w1 hss
  rw [HP.out] at hpa
  have f1 : (1 : Int) ≤ c := by omega
  have f2 : 1 ≤ c := by omega
  have f3 : ¬ c - 1 = 0 := by omega
  have f4 : ¬ c = 1 := by omega
  have f5 : ¬ c ≤ 1 := by omega
  have HB1 := Lib.hid hb1
  clear ho1 hb1 hc hss
  go_wp2_with fail
  refine hpa.mono ?_
  rintro e w2 ⟨hb2, lv, ov, rfl, hl2, ho2⟩
  obtain ⟨pl, cl, rfl, hlc, hat⟩ := hl2.at_
  obtain ⟨po, co, hov⟩ := strs_shape ho2
  simp only [List.length_nil] at hov
  subst hov
  have hgl2 : Glo w2 := (HG.out.below HB1.out).below hb2
  have hask := HA.out pl cl w2 hlc hat hgl2
  have HB2 := Lib.hid hb2
  clear hpa hb2 hl2 ho2 hat hgl2 f1 f2 f3 f4 f5
  go_wp2_with fail
  refine hask.mono ?_
  rintro e w5 ⟨b, cc, rfl, hcc, hbn, hone, hno, hb5⟩
  clear hask
  have hmk := unexpander_any b cc w5
  have HB5 := Lib.hid hb5
  have HONE := Lib.hid (And.intro hone hno)
  have HBN := Lib.hid hbn
  have e9 : decide (0 < L.length) = true := decide_eq_true hL0
  clear hb5 hone hno hbn
  go_wp2_with fail
  refine hmk.mono ?_
  rintro e w6 ⟨rfl, hk6, ha6, hb6⟩
  clear hmk
  have hbt2 : Below w.heap.size w w2 := HB1.out.trans (HB2.out.mono HB1.out.size)
  have hbt : Below w.heap.size w w5 := hbt2.trans (HB5.out.mono hbt2.size)
  have hbw : Below w.heap.size w w6 := hbt.trans (hb6.mono hbt.size)
  have hpr6 := H.out.below hbw
  have hbl : b < w5.heap.size := World.block_lt_of_cell? w5 ⟨b, 0, none⟩ HONE.out.1
  have hst6 : StopsSt w5.heap.size b cc s w6 := ⟨hk6, (hb6.cell (p := ⟨b, 0, none⟩) hbl).trans HONE.out.1, fun i n => by rw [hb6.cell (p := ⟨b, i, none⟩) hbl]; exact HONE.out.2 i n⟩
  have hent : ∀ (args : Array Value) (w : World), (callFunc 134 args).run Tryz.prog w = .ok (.enter 134 args) w := enters_of Tryz.func134 (by kernel_rfl) rfl
  have hrn := runs_any 134 hent _ _ _ _ _ _ F (unexpand_filt (w5.heap.size + 1) w5.heap.size b cc s hs1 hs2 hcc) M inp [] [] a0 rest ha ha0 (by simp) () po co w6 hpr6 ⟨ha6, hst6⟩ (fun j hj => by
    have := H.out.n0
    have := hbt.size
    have := hbt2.size
    have := HBN.out
    refine ⟨by omega, fun hm => ?_⟩
    have := H.out.lt j hm
    omega) HOK.out (by rw [HR.out, List.nil_append]; exact hbig)
  rw [HR.out] at hrn
  have HBW := Lib.hid hbw
  have HBT := Lib.hid (And.intro hbt hbt2)
  clear hst6 hb6 hk6 hbt hbt2 hbw hpr6 hent
  go_wp2_with fail
  refine hrn.mono ?_
  rintro e w7 ⟨inp', M', rfl, hp7, hk7, hm7⟩
  clear hrn
  have hfin : MainPost F M a0 R w (.returned (.int .i64 (if R.2 then 0 else 1))) w7 := by
    refine ⟨inp', M', rfl, by simpa using hp7, ⟨(Kept.of_below HBW.out).trans' hk7 fun k hk e => ?_, fun j hj => ?_⟩⟩
    · have := HBT.out.1.size
      have := HBT.out.2.size
      have := HBN.out
      rcases e with e | e
      · exact e
      · omega
    · rcases hm7 j hj with e | e
      · exact .inl e
      · have := HBW.out.size; exact .inr (by omega)
  generalize (if R.2 then (0 : Int) else 1) = st at *
  have HFIN := Lib.hid hfin
  clear hp7 hk7 hm7 hfin
  go_wp2_with fail
  go_ret
  exact HFIN.out

theorem starts_unexpand (w1 : World) (hg : Glo w1) (rest : List Bts) (hrest : rest ≠ []) (htot : totL rest ≤ 1000000) (L : List OptA) (hp : Op.parse [97, 116, 58] rest = some (L, [])) (hL0 : 0 < L.length) (s : Nat) (hA : AskedC L s) (hs1 : 1 ≤ s) (hs2 : s ≤ 255) (inp : Bts) (hok : ∀ c ∈ inp, c ≠ 8) (buf line run : Nat) (hbig : (Wi.runs (Wi.still (Wi.unexpand s)) line () inp).1.length ≤ 4294967296) :
    Starts w1 27 ([117, 110, 101, 120, 112, 97, 110, 100] :: rest) buf line run inp (EndQ [117, 110, 101, 120, 112, 97, 110, 100] (Wi.runs (Wi.still (Wi.unexpand s)) line () inp)) := by
  intro F M ha _ hline _ hw0
  subst hw0
  subst hline
  refine ⟨50, enters_of Tryz.func50 (by kernel_rfl) rfl, fun W hW => ?_, fun W hW => ?_⟩
  · exact start_unexpand F M inp rest ha W hW
  · exact (unexpand_any F M inp _ rest ha hrest htot (by decide) L hp hL0 s hA hs1 hs2 hg hok hbig W hW).mono fun e w' h => EndQ.of h

end Go.Proofs.YtbpcfjoebfbjmaaGreatDoor

/-
  The walk of width's join of three. Conditions: lengths.
-/
namespace Go.Proofs.YtbpcfjoebfbjmaaGreatDoor
open Go.RowKit Go.Shelf Go.Maps

set_option maxRecDepth 100000 in
set_option maxHeartbeats 2000000 in
theorem join3_any (b o c : Nat) (hc : 3 ≤ c) (v1 v2 v3 : Value) (xs ys zs : Bts) (N1 N2 N3 : Nat → Prop) (w : World) (h0 : w.cell? ⟨b, o, none⟩ = some v1) (h1 : w.cell? ⟨b, o + 1, none⟩ = some v2) (h2 : w.cell? ⟨b, o + 2, none⟩ = some v3) (s1 : SlE w N1 v1 xs) (s2 : SlE w N2 v2 ys) (s3 : SlE w N3 v3 zs) (hl : xs.length + ys.length + zs.length ≤ 4294967296) :
    Calls Tryz.prog 122 #[.slice (some ⟨b, o, none⟩) 3 c] w fun e w' => ∃ v, e = .returned v ∧ SlE w' (fun g => w.heap.size ≤ g) v (xs ++ ys ++ zs) ∧ Below w.heap.size w w' := by
  have hj := Any.bytes_Join_many Tryz.laysSlJ14 b o 3 c [v1, v2, v3] [xs, ys, zs] (.slice none 0 0) [] w rfl (by decide) ⟨rfl, fun i v hv => by
      have : i = 0 ∨ i = 1 ∨ i = 2 := by
        have := (List.getElem?_eq_some_iff.1 hv).1
        simp at this; omega
      rw [show ((⟨b, o, none⟩ : Addr).add i) = ⟨b, o + i, none⟩ by simp only [Addr.add]; split <;> simp_all]
      rcases this with rfl | rfl | rfl
      · simp at hv; subst hv; simpa using h0
      · simp at hv; subst hv; exact h1
      · simp at hv; subst hv; exact h2, fun i v l hv hl => by
      have : i = 0 ∨ i = 1 ∨ i = 2 := by
        have := (List.getElem?_eq_some_iff.1 hv).1
        simp at this; omega
      rcases this with rfl | rfl | rfl
      · simp at hv hl; subst hv; subst hl; exact s1.holds
      · simp at hv hl; subst hv; subst hl; exact s2.holds
      · simp at hv hl; subst hv; subst hl; exact s3.holds⟩ hc ⟨none, 0, rfl, fun _ => rfl, fun a ha => by cases ha⟩ (by decide) (by simp [Lib.lens]; omega)
  have e : Lib.join [xs, ys, zs] [] = xs ++ ys ++ zs := by simp [Lib.join, List.intercalate]
  rw [e] at hj
  clear h0 h1 h2 s1 s2 s3 e
  go_enter Tryz.func122, Tryz.ntmps122
  go_wp2_with fail
  refine hj.mono ?_
  rintro e w1 ⟨v, rfl, hf, hb⟩
  have HF := Lib.hid (slE_fresh hf)
  have HB := Lib.hid hb
  clear hf hb hj
  go_wp2_with fail
  go_ret
  exact ⟨_, rfl, HF.out, HB.out⟩

end Go.Proofs.YtbpcfjoebfbjmaaGreatDoor

/-
  The walk of bytes.Replace where noughts take the place of blanks. Condition: at most 8192 of them.
-/
namespace Go.Proofs.YtbpcfjoebfbjmaaGreatDoor
open Go.RowKit Go.Shelf Go.Maps

/-- So many noughts lie at a row's beginning. -/
def NouAt (W : World) (g : Nat) (k cap : Nat) : Prop := ∃ cur : List Value, W.heap[g]? = some (.cells cur.toArray 5 (0, 0)) ∧ cur.length = cap ∧ k ≤ cap ∧ ∀ i, i < k → cur[i]? = some (.int .u8 48)
theorem NouAt.cell {W : World} {g k cap : Nat} (h : NouAt W g k cap) (i : Nat) (hi : i < k) : W.cell? ⟨g, i, none⟩ = some (.int .u8 48) := by
  obtain ⟨cur, hb, -, -, hc⟩ := h
  have : Blk W g cur.toArray 5 := hb
  exact this.cell i (by simpa using hc i hi)
theorem splice_nou {cur : List Value} {k : Nat} (hm : k + 1 ≤ cur.length) (h : ∀ i, i < k → cur[i]? = some (.int .u8 48)) : (splice cur k [.int .u8 48]).length = cur.length ∧ ∀ i, i < k + 1 → (splice cur k [.int .u8 48])[i]? = some (.int .u8 48) := by
  refine ⟨length_splice _ _ _ (by simpa using hm), fun i hi => ?_⟩
  unfold splice
  by_cases h1 : i < k
  · rw [List.getElem?_append_left (by simp; omega), List.getElem?_take, if_pos h1]
    exact h i h1
  · obtain rfl : i = k := by omega
    rw [List.getElem?_append_right (by simp; omega), List.getElem?_append_left (by simp; omega)]
    simp [List.length_take]
    have : min i cur.length = i := by omega
    simp [this]
theorem bytesOf_rep (n : Nat) : Lib.bytesOf (List.replicate n (32 : Int)) = List.replicate n 32 := by simp [Lib.bytesOf]

set_option maxRecDepth 100000 in
set_option maxHeartbeats 4000000 in
theorem replaceNou_any (n : Nat) (hn : n ≤ 8192) (b o c : Nat) (hc : n ≤ c) (b1 b2 : Nat) (w : World) (hs : ∀ i, i < n → w.cell? ⟨b, o + i, none⟩ = some (.int .u8 32)) (h1 : w.cell? ⟨b1, 0, none⟩ = some (.int .u8 32)) (h2 : w.cell? ⟨b2, 0, none⟩ = some (.int .u8 48)) :
    Calls Tryz.prog 184 #[.slice (some ⟨b, o, none⟩) n c, .slice (some ⟨b1, 0, none⟩) 1 1, .slice (some ⟨b2, 0, none⟩) 1 1, .int .i64 (-1)] w fun e w' => ∃ v, e = .returned v ∧ SlE w' (fun g => w.heap.size ≤ g) v (List.replicate n 48) ∧ Below w.heap.size w w' := by
  have hcnt := Any.bytes_Count_one Tryz.laysSlB13 b o n c b1 0 1 (List.replicate n (32 : Int)) 32 w (by simp) (fun i hi => by rw [hs i hi]; simp [List.getD_eq_getElem?_getD, hi]) h1
  have hcv : Lib.countByte (Lib.bytesOf (List.replicate n (32 : Int))) (32 : Int).toNat.toUInt8 = n := by rw [bytesOf_rep]; simp [Lib.countByte]
  rw [hcv] at hcnt
  obtain ⟨i0, hi, hz0, hz1, hz2⟩ := info_parts info_byte
  have HS := Lib.hid hs
  have H1 := Lib.hid h1
  have H2 := Lib.hid h2
  clear hcv hs h1 h2
  rcases Nat.eq_zero_or_pos n with rfl | hpos
  · go_enter Tryz.func184, Tryz.ntmps184
    go_wp2_with fail
    refine hcnt.mono ?_
    rintro e w1 ⟨rfl, rfl⟩
    clear hcnt
    go_wp2_with (at_builtin; refine append_bytes rfl _ _ rfl w1.heap.size (.slice none 0 0) 0 [] (by go_simp) (World.ownsRow_nil _ _ _ _) (some ⟨b, o, none⟩) [] c (by go_simp) (Bs.nil _ _) (by simp) (Nat.le_refl _) ?_; intro v1 u1 ho1 hg1 hv1; have HO1 := Lib.hid ho1; have HG1 := Lib.hid hg1; clear ho1 hg1 hv1)
    go_ret
    exact ⟨_, rfl, row_sle (xs := []) HO1.out rfl, below_grown HG1.out (fun k hk => by cases hk) (Nat.le_refl _)⟩
  · have e1 : ((n : Int) == 0) = false := by simp; omega
    have e2 : (0 : Int) < 1 := by decide
    have hb : b < w.heap.size := World.block_lt_of_cell? _ ⟨b, o + 0, none⟩ (HS.out 0 hpos)
    go_enter Tryz.func184, Tryz.ntmps184
    go_wp2_with fail
    refine hcnt.mono ?_
    rintro e w1 ⟨rfl, rfl⟩
    clear hcnt
    go_wp2_with (refine wpList_make_row _ rfl _ _ 22 rfl 5 i0 (.int .u8 0) Tryz.underlying22 hi hz0 hz1 rfl .i64 .i64 n (by go_simp) (by go_simp) (by rw [hz2]; omega) (by omega) ?_)
    have hnew : NouAt (w1.alloc (.cells (madeCells #[.int .u8 0] n) 5)) w1.heap.size 0 n := ⟨(madeCells #[.int .u8 0] n).toList, by
      have := Blk.new w1 (madeCells #[.int .u8 0] n) 5
      rw [Array.toArray_toList]
      exact this, by rw [Array.length_toList, size_madeCells], Nat.zero_le _, fun i hi => by omega⟩
    have hb2' : Below w1.heap.size w1 (w1.alloc (.cells (madeCells #[.int .u8 0] n) 5)) := (Below.refl _ _).alloc (Nat.le_refl _) _
    have HNEW := Lib.hid hnew
    have HB2 := Lib.hid hb2'
    have lb1 := World.block_lt_of_cell? _ _ H1.out
    have lb2 := World.block_lt_of_cell? _ _ H2.out
    have hui := (by kernel_rfl : (Tryz.prog.info? 5).map (·.size) = some 1)
    have HUI := Lib.hid hui
    clear hnew hb2' hi hz0 hz1 hz2 hui
    go_loopw [11, 12, 13, 49] (fun x11 x12 _x13 x49 wr => ∃ k : Nat, k ≤ n ∧ x11 = .int .i64 k ∧ x12 = .int .i64 k ∧ x49 = .int .i64 k ∧ Hid (NouAt wr w1.heap.size k n) ∧ Hid (Below w1.heap.size w1 wr)) (fun x11 _ _ _ _ => n - (intOf x11).toNat)
    case atStart => exact ⟨0, Nat.zero_le _, rfl, rfl, rfl, HNEW, HB2⟩
    case round =>
      clear HNEW HB2
      obtain ⟨k, hk, rfl, rfl, rfl, hno, hbl⟩ := hrel
      by_cases hlt : k < n
      · have e3 : decide ((k : Int) < (n : Int)) = true := decide_eq_true (by omega)
        have hix := Any.bytes_Index_one Tryz.lays185 b (o + k) (n - k) (c - k) b1 0 1 (List.replicate (n - k) (32 : Int)) 32 wr (by simp) (fun i hi => by
          rw [Nat.add_assoc]
          rw [(hbl.out.cell (p := ⟨b, o + (k + i), none⟩) hb).trans (HS.out (k + i) (by omega))]
          simp [List.getD_eq_getElem?_getD, hi]) ((hbl.out.cell (p := ⟨b1, 0, none⟩) lb1).trans H1.out)
        have hiv : Lib.indexByte (Lib.bytesOf (List.replicate (n - k) (32 : Int))) (32 : Int).toNat.toUInt8 = 0 := by
          rw [bytesOf_rep]
          obtain ⟨m, hm⟩ : ∃ m, n - k = m + 1 := ⟨n - k - 1, by omega⟩
          rw [hm, List.replicate_succ]
          rfl
        rw [hiv] at hix
        have g1 : (k : Int) ≤ n := by omega
        have g2 : (k : Int) ≤ c := by omega
        have g3 : ¬ c - k = 0 := by omega
        have g4 : ¬ c = k := by omega
        have g5 : ¬ c ≤ k := by omega
        have g6 : ¬ n - k = 0 := by omega
        have g7 : ¬ n = k := by omega
        have g8 : ¬ n ≤ k := by omega
        have g9 : (0 : Int) ≤ k := by omega
        clear hiv
        go_wp2_with fail
        refine hix.mono ?_
        rintro e w3 ⟨rfl, rfl⟩
        clear hix
        obtain ⟨cur, hcb, hcl, hkc, hcc⟩ := hno.out
        have HCB : Hid (w3.drew.heap[w1.heap.size]? = some (.cells cur.toArray 5 (0, 0))) := hcb
        have HBE : Hid (Below w1.heap.size w1 w3.drew) := Lib.hid (hbl.out.trans (below_drew _ w3))
        have HC := Lib.hid (And.intro hcl hcc)
        clear hcb hcc hcl
        have HMIN0 : Hid (([] : List Value).length = Nat.min 0 (n - k)) := Lib.hid (Nat.zero_min _).symm
        have HFIT0 : Hid (k + ([] : List Value).length ≤ cur.length) := Lib.hid (by rw [HC.out.1]; exact hkc)
        have hwr : IntKind.i64.wrap ((k : Int) + 1) = (k : Int) + 1 := by rw [IntKind.wrap_i64]; omega
        go_wp2_with fail
        go_region_law ((refine step_copy_splice (by rfl) _ _ 22 22 (by rfl) 5 Tryz.underlying22 HUI.out (some ⟨w1.heap.size, k, none⟩) (some ⟨b, o + k, none⟩) (n - k) (n - k) 0 (c - k) (by go_simp) (by go_simp) w1.heap.size k cur 5 HCB.out [] HMIN0.out (fun h => absurd h (by simp)) HFIT0.out (by simp) w1.heap.size w1 HBE.out (Nat.le_refl _) ?_; intro w4 hw4 hb4))
        have hsp0 : splice cur k [] = cur := by simp [splice]
        rw [hsp0] at hw4
        have hw0 : IntKind.i64.wrap (k : Int) = (k : Int) := by rw [IntKind.wrap_i64]; omega
        have HCB4 : Hid (w4.heap[w1.heap.size]? = some (.cells cur.toArray 5 (0, 0))) := hw4
        have hsp1 := splice_nou (cur := cur) (k := k) (by rw [HC.out.1]; omega) HC.out.2
        have HSP1 := Lib.hid hsp1
        have HMIN1 : Hid ([Value.int .u8 48].length = Nat.min 1 (n - k)) := Lib.hid (Nat.min_eq_left (show 1 ≤ n - k by omega)).symm
        have HFIT1 : Hid (k + [Value.int .u8 48].length ≤ cur.length) := Lib.hid (by rw [HC.out.1]; simp; omega)
        have HN : Hid (∀ j v, [Value.int .u8 48][j]? = some v → w4.cell? ((⟨b2, 0, none⟩ : Addr).add j) = some v) := Lib.hid (by
          intro j v hj
          obtain rfl : j = 0 := by have := (List.getElem?_eq_some_iff.1 hj).1; simpa using this
          simp at hj
          rw [show ((⟨b2, 0, none⟩ : Addr).add 0) = ⟨b2, 0, none⟩ by simp only [Addr.add]; split <;> simp_all, ← hj]
          exact (hb4.cell (p := ⟨b2, 0, none⟩) lb2).trans H2.out)
        have HB4 := Lib.hid hb4
        clear hsp0 hw4 hb4 hsp1
        simp only [Act.put, hw0]
        go_wp2_with (refine wpList_copy_splice rfl _ _ 22 22 rfl 5 Tryz.underlying22 HUI.out (some ⟨w1.heap.size, k, none⟩) (some ⟨b2, 0, none⟩) (n - k) (n - k) 1 1 (by go_simp) (by go_simp) w1.heap.size k cur 5 HCB4.out [.int .u8 48] HMIN1.out (fun _ => ⟨rfl, _, rfl, HN.out⟩) HFIT1.out (by simp [Value.oneCell']) w1.heap.size w1 HB4.out (Nat.le_refl _) ?_; intro w5 hw5 hb5)
        exact ⟨⟨k + 1, by omega, by go_num, by go_num, by go_num, Lib.hid ⟨_, hw5.out, by rw [HSP1.out.1, HC.out.1], by omega, HSP1.out.2⟩, Lib.hid hb5⟩, by simp [intOf]; omega⟩
      · obtain rfl : k = n := by omega
        have e3 : decide ((k : Int) < (k : Int)) = false := by simp
        rcases Nat.lt_or_ge k c with hkc | hkc
        · have g3 : ¬ c - k = 0 := by omega
          have g4 : ¬ c = k := by omega
          have g5 : ¬ c ≤ k := by omega
          have g6 : k ≤ c := by omega
          obtain ⟨cur, hcb, hcl, -, hcc⟩ := hno.out
          have HCB : Hid (wr.drew.heap[w1.heap.size]? = some (.cells cur.toArray 5 (0, 0))) := hcb
          have HBE : Hid (Below w1.heap.size w1 wr.drew) := Lib.hid (hbl.out.trans (below_drew _ wr))
          have HC := Lib.hid (And.intro hcl hcc)
          have HFIT0 : Hid (k + ([] : List Value).length ≤ cur.length) := Lib.hid (by rw [hcl]; exact Nat.le_refl _)
          clear hcb hcc hcl
          go_wp2_with fail
          go_region_law (first | (refine step_copy_splice (by rfl) _ _ 22 22 (by rfl) 5 Tryz.underlying22 HUI.out (some ⟨w1.heap.size, 0, none⟩) (some ⟨b, o + k, none⟩) 0 0 0 (c - k) (by go_simp) (by go_simp) w1.heap.size k cur 5 HCB.out [] rfl (fun h => absurd h (by simp)) HFIT0.out (by simp) w1.heap.size w1 HBE.out (Nat.le_refl _) ?_; intro w4 hw4 hb4) | (refine step_copy_splice (by rfl) _ _ 22 22 (by rfl) 5 Tryz.underlying22 HUI.out (some ⟨w1.heap.size, k, none⟩) (some ⟨b, o + k, none⟩) 0 0 0 (c - k) (by go_simp) (by go_simp) w1.heap.size k cur 5 HCB.out [] rfl (fun h => absurd h (by simp)) HFIT0.out (by simp) w1.heap.size w1 HBE.out (Nat.le_refl _) ?_; intro w4 hw4 hb4))
          have hw0 : IntKind.i64.wrap (k : Int) = (k : Int) := by rw [IntKind.wrap_i64]; omega
          simp only [Act.put, hw0]
          go_wp2_with fail
          go_ret
          have hsp0 : splice cur k [] = cur := by simp [splice]
          rw [hsp0] at hw4
          have hno4 : NouAt w4 w1.heap.size k k := ⟨cur, hw4.out, HC.out.1, Nat.le_refl _, HC.out.2⟩
          refine ⟨_, rfl, .inr ⟨by intro e; have := congrArg List.length e; simp at this; omega, .inr ⟨w1.heap.size, 0, k, by simp, by simp, ?_, Nat.le_refl _, fun i hi => ?_⟩⟩, hb4⟩
          · exact World.block_lt_of_cell? w4 ⟨w1.heap.size, 0, none⟩ (hno4.cell 0 (by omega))
          · rw [Nat.zero_add, hno4.cell i (by simpa using hi)]
            simp at hi
            simp [List.getD_eq_getElem?_getD, hi]
        · obtain rfl : c = k := by omega
          obtain ⟨cur, hcb, hcl, -, hcc⟩ := hno.out
          have HCB : Hid (wr.drew.heap[w1.heap.size]? = some (.cells cur.toArray 5 (0, 0))) := hcb
          have HBE : Hid (Below w1.heap.size w1 wr.drew) := Lib.hid (hbl.out.trans (below_drew _ wr))
          have HC := Lib.hid (And.intro hcl hcc)
          have HFIT0 : Hid (c + ([] : List Value).length ≤ cur.length) := Lib.hid (by rw [hcl]; exact Nat.le_refl _)
          clear hcb hcc hcl
          go_wp2_with fail
          go_region_law (first | (refine step_copy_splice (by rfl) _ _ 22 22 (by rfl) 5 Tryz.underlying22 HUI.out (some ⟨w1.heap.size, 0, none⟩) (some ⟨b, o, none⟩) 0 0 0 (0) (by go_simp) (by go_simp) w1.heap.size c cur 5 HCB.out [] rfl (fun h => absurd h (by simp)) HFIT0.out (by simp) w1.heap.size w1 HBE.out (Nat.le_refl _) ?_; intro w4 hw4 hb4) | (refine step_copy_splice (by rfl) _ _ 22 22 (by rfl) 5 Tryz.underlying22 HUI.out (some ⟨w1.heap.size, c, none⟩) (some ⟨b, o, none⟩) 0 0 0 (0) (by go_simp) (by go_simp) w1.heap.size c cur 5 HCB.out [] rfl (fun h => absurd h (by simp)) HFIT0.out (by simp) w1.heap.size w1 HBE.out (Nat.le_refl _) ?_; intro w4 hw4 hb4))
          have hw0 : IntKind.i64.wrap (c : Int) = (c : Int) := by rw [IntKind.wrap_i64]; omega
          simp only [Act.put, hw0]
          go_wp2_with fail
          go_ret
          have hsp0 : splice cur c [] = cur := by simp [splice]
          rw [hsp0] at hw4
          have hno4 : NouAt w4 w1.heap.size c c := ⟨cur, hw4.out, HC.out.1, Nat.le_refl _, HC.out.2⟩
          refine ⟨_, rfl, .inr ⟨by intro e; have := congrArg List.length e; simp at this; omega, .inr ⟨w1.heap.size, 0, c, by simp, by simp, ?_, Nat.le_refl _, fun i hi => ?_⟩⟩, hb4⟩
          · exact World.block_lt_of_cell? w4 ⟨w1.heap.size, 0, none⟩ (hno4.cell 0 (by omega))
          · rw [Nat.zero_add, hno4.cell i (by simpa using hi)]
            simp at hi
            simp [List.getD_eq_getElem?_getD, hi]

set_option maxRecDepth 100000 in
theorem replaceAllNou_any (n : Nat) (hn : n ≤ 8192) (b o c : Nat) (hc : n ≤ c) (b1 b2 : Nat) (w : World) (hs : ∀ i, i < n → w.cell? ⟨b, o + i, none⟩ = some (.int .u8 32)) (h1 : w.cell? ⟨b1, 0, none⟩ = some (.int .u8 32)) (h2 : w.cell? ⟨b2, 0, none⟩ = some (.int .u8 48)) :
    Calls Tryz.prog 138 #[.slice (some ⟨b, o, none⟩) n c, .slice (some ⟨b1, 0, none⟩) 1 1, .slice (some ⟨b2, 0, none⟩) 1 1] w fun e w' => ∃ v, e = .returned v ∧ SlE w' (fun g => w.heap.size ≤ g) v (List.replicate n 48) ∧ Below w.heap.size w w' := by
  have hr := replaceNou_any n hn b o c hc b1 b2 w hs h1 h2
  clear hs h1 h2
  go_enter Tryz.func138, Tryz.ntmps138
  go_wp2_with fail
  refine hr.mono ?_
  rintro e w1 ⟨v, rfl, hs, hb⟩
  have HS := Lib.hid hs
  have HB := Lib.hid hb
  clear hs hb hr
  go_wp2_with fail
  go_ret
  exact ⟨_, rfl, HS.out, HB.out⟩

end Go.Proofs.YtbpcfjoebfbjmaaGreatDoor

/-
  The walk of text.Digits to base ten. Conditions: the number is one of an int; the library's variables hold what they hold.
-/
namespace Go.Proofs.YtbpcfjoebfbjmaaGreatDoor
open Go.RowKit Go.Shelf

set_option maxHeartbeats 1600000 in
theorem digits_any (n : Int) (h0 : -9223372036854775808 ≤ n) (h1 : n ≤ 9223372036854775807) (w : World) (hg : Glo w) :
    Calls Tryz.prog 7 #[.int .i64 n, .int .i64 10] w fun e w' => e = .returned (.string ⟨(Lib.itoa n).toArray⟩) ∧ Below w.heap.size w w' := by
  have h3 : Calls Tryz.prog 15 #[.int .i64 n, .int .i64 10] w fun e w' => e = .returned (.string ⟨(Lib.itoa n).toArray⟩) ∧ Below w.heap.size w w' := by
    refine (Any.strconv_FormatInt_10 Tryz.laysM173 n h0 h1 w hg.tab).mono ?_
    rintro e w' ⟨rfl, k, os, rfl⟩
    exact ⟨rfl, below_regrown w _ os⟩
  clear h0 h1
  go_enter Tryz.func7, Tryz.ntmps7
  go_wp2_with fail
  refine h3.mono ?_
  rintro e w' ⟨rfl, hb⟩
  go_wp2_with fail
  go_ret
  exact ⟨rfl, hb⟩

end Go.Proofs.YtbpcfjoebfbjmaaGreatDoor

/-
  What nl tells of a line, in the program's own terms (its number is an Int that wraps). The walk of form.line follows.
  Conditions: every line is numbered, or those that are not empty; numbers to the right, with blanks or noughts.
-/
namespace Go.Proofs.YtbpcfjoebfbjmaaGreatDoor
open Go.RowKit Go.Shelf Go.Maps

/-- t: empty lines have no number; z: noughts ahead; sep behind it; a place of wd; by: how far to the next one. -/
def nlLine (t z : Bool) (sep : Bts) (wd : Nat) (by_ : Int) (at_ : Int) (l : Bts) : Int × Bts :=
  if (t && l.isEmpty) = true then (at_, List.replicate (wd + sep.length) 32 ++ l)
  else (wrap64 (at_ + by_), (List.replicate (wd - (Lib.itoa at_).length) (if z then 48 else 32) ++ Lib.itoa at_) ++ sep ++ l)

/-- A form in memory. -/
def FormSt (fb : Nat) (t z : Bool) (sep : Bts) (wd : Nat) (by_ : Int) (at_ : Int) (W : World) : Prop :=
  Glo W ∧ -9223372036854775808 ≤ at_ ∧ at_ ≤ 9223372036854775807 ∧ 8 ≤ fb ∧ Blk W fb #[strV (if t then [116] else [97]), strV sep, strV (if z then [114, 122] else [114, 110]), .int .i64 at_, .int .i64 by_, .int .i64 wd] 191

set_option maxRecDepth 100000 in
set_option maxHeartbeats 4000000 in
theorem formLine_empty (fb : Nat) (z : Bool) (sep : Bts) (wd : Nat) (hw : wd + sep.length ≤ 8192) (by_ at_ : Int) (p : Option Addr) (c : Nat) (w : World) (h : FormSt fb true z sep wd by_ at_ w) :
    Calls Tryz.prog 88 #[.pointer (some ⟨fb, 0, none⟩), .slice p 0 c] w fun e w' => ∃ v, e = .returned v ∧ SlE w' (fun j => w.heap.size ≤ j) v (List.replicate (wd + sep.length) 32) ∧ Below w.heap.size w w' := by
  obtain ⟨-, -, -, -, hb⟩ := h
  have a0 := hb.cell 0 (v := .string ⟨#[116]⟩) rfl
  have a1 := hb.cell 1 (v := .string ⟨sep.toArray⟩) rfl
  have a5 := hb.cell 5 (v := .int .i64 wd) rfl
  have HB := Lib.hid hb
  have hbk := blanks_any ((wd : Int) + sep.length) (by omega) (by omega) w.drew
  have e5 : ((wd : Int) + sep.length).toNat = wd + sep.length := by omega
  have e4 : IntKind.i64.wrap ((wd : Int) + sep.length) = (wd : Int) + sep.length := by rw [IntKind.wrap_i64]; omega
  rw [e5] at hbk
  obtain ⟨XB, hXB⟩ : ∃ XB, List.replicate (wd + sep.length) (32 : UInt8) = XB := ⟨_, rfl⟩
  rw [hXB] at hbk ⊢
  have hXL : XB.length ≤ 8192 := by rw [← hXB, List.length_replicate]; exact hw
  have HJ : Hid (∀ (W : World) (v : Value), SlE W (fun g => w.drew.heap.size ≤ g) v XB → Calls Tryz.prog 122 #[.slice (some ⟨W.heap.size, 0, none⟩) 2 2] (W.alloc (.cells #[v, .slice p 0 c] 22)) fun e w' => ∃ v', e = .returned v' ∧ SlE w' (fun g => W.heap.size ≤ g) v' XB ∧ Below W.heap.size W w') := Lib.hid fun W v hv => by
    have hal : Below W.heap.size W (W.alloc (.cells #[v, .slice p 0 c] 22)) := (Below.refl _ _).alloc (Nat.le_refl _) _
    have hj := join2_any W.heap.size 0 2 (Nat.le_refl _) v (.slice p 0 c) XB [] _ (fun _ => True) (W.alloc (.cells #[v, .slice p 0 c] 22)) ((Blk.new W _ _).cell 0 rfl) ((Blk.new W _ _).cell 1 rfl) (hv.below hal) (.inl ⟨rfl, _, _, rfl⟩) (by simp; omega)
    refine hj.mono fun e w' ⟨v', he, hs, hb⟩ => ⟨v', he, ?_, hal.trans (hb.mono hal.size)⟩
    rw [List.append_nil] at hs
    exact hs.mono fun g _ hg => Nat.le_trans hal.size hg
  have HBK := Lib.hid hbk
  have HS : Hid (w.cell? ⟨fb, 5, none⟩ = some (.int .i64 wd) ∧ w.cell? ⟨fb, 1, none⟩ = some (.string ⟨sep.toArray⟩)) := Lib.hid ⟨a5, a1⟩
  clear hb hbk e5 hXB hXL
  go_enter Tryz.func88, Tryz.ntmps88
  go_wp2_with fail
  go_region_held3 (fun w' => w'.cell? ⟨fb, 5, none⟩ = some (.int .i64 wd) ∧ w'.cell? ⟨fb, 1, none⟩ = some (.string ⟨sep.toArray⟩)) (first | go_keep | with_reducible exact HS.out | with_reducible exact HS4.out | with_reducible exact HS5.out | with_reducible exact HS6.out)
    (first | (go_at_call 133; refine HBK.out.mono ?_; rintro e w4 ⟨v4, rfl, hs4, hb4⟩; have hb4' := (below_drew2 w).trans hb4; obtain ⟨p4, c4, rfl, -⟩ := id hs4.bs; have HS4 := Lib.hid (show w4.cell? ⟨fb, 5, none⟩ = some (.int .i64 wd) ∧ w4.cell? ⟨fb, 1, none⟩ = some (.string ⟨sep.toArray⟩) from ⟨(HB.out.keep hb4' HB.out.lt).cell 5 rfl, (HB.out.keep hb4' HB.out.lt).cell 1 rfl⟩); have HSL4 := Lib.hid hs4; have HB4 := Lib.hid hb4'; clear hs4 hb4 hb4') | (go_at_call 122; refine (HJ.out w4 _ HSL4.out).mono ?_; rintro e w6 ⟨v6, rfl, hs6, hb6⟩; have HS6 := Lib.hid (show w6.cell? ⟨fb, 5, none⟩ = some (.int .i64 wd) ∧ w6.cell? ⟨fb, 1, none⟩ = some (.string ⟨sep.toArray⟩) from ⟨((HB.out.keep HB4.out HB.out.lt).keep hb6 (HB.out.keep HB4.out HB.out.lt).lt).cell 5 rfl, ((HB.out.keep HB4.out HB.out.lt).keep hb6 (HB.out.keep HB4.out HB.out.lt).lt).cell 1 rfl⟩); have HSL6 := Lib.hid hs6; have HB6 := Lib.hid hb6; clear hs6 hb6))
  go_wp2_with fail
  go_ret
  exact ⟨_, rfl, HSL6.out.mono (fun g _ hg => Nat.le_trans HB4.out.size hg), HB4.out.trans (HB6.out.mono HB4.out.size)⟩

end Go.Proofs.YtbpcfjoebfbjmaaGreatDoor
