/-
  Texts of this seat put together: L16, D1, D2, D3, D4, D5, D6.
-/
import Derived.Test.YtfgmmaahbngonaaGreatDoorQ25
import Derived.Test.YtfgmmaahbngonaaGreatDoorQ9
import Derived.Laws.IdiomRangeMap
import Derived.Maps.RangeRun
import Derived.Shelf.Slices.In.SortNone

/-
  The walk of expr's main: what it tells. Conditions: what the library's variables hold; a process that runs; operands that the spec tells of; lengths.
-/
namespace Go.Proofs.YtfgmmaahbngonaaGreatDoor
open Go.RowKit Go.Shelf Go.Maps

/-! The map of ranks, as it is filled. -/
def rankF : List (Bts × Nat) → Bts → Nat
  | [], _ => 0
  | (x, k) :: r, s => if s = x then k else rankF r s
def RankUp (w : World) (n : Nat) (fs : List (Bts × Nat)) (W : World) : Prop := ∃ D : DataW Unit, W.ownsMap Tryz.prog 9 (plainElem (H := Unit) Tryz.prog 3) w.heap.size n D ∧ Below w.heap.size w W ∧ ∀ (s : Bts) z, D.atKey (.string s) z = if rankF fs s = 0 then z else .lit (.int .i64 (rankF fs s))
theorem RankUp.put {w W : World} {n : Nat} {fs : List (Bts × Nat)} (h : RankUp w n fs W) (hn : n < 100) (x : Bts) (k : Nat) (ki : Int) (hki : ki = (k : Int)) (hk : 1 ≤ k ∧ k ≤ 6) (hx : x.length ≤ maxLen) :
    ∃ W', (Instr.mapUpdate 162 (.map (some w.heap.size)) (.string ⟨x.toArray⟩) (.int .i64 ki)).run Tryz.prog W = .ok () W' ∧ RankUp w (n + 1) ((x, k) :: fs) W' := by
  subst hki
  obtain ⟨D, ho, hb, ha⟩ := h
  have hw : (Lit.int .i64 (k : Int)).wf = true := by
    have : ∀ j : Fin 7, (Lit.int .i64 (j.val : Int)).wf = true := by decide
    exact this ⟨k, by omega⟩
  obtain ⟨W', hrun, ho', hg⟩ := ho.update kStr (t := 162) Tryz.underlying162 (show n < maxLen by unfold maxLen; omega) (key := .string ⟨x.toArray⟩) (val := .int .i64 k) (kl := .string x) (Go.WideMaps.keyOf_string_mk Tryz.underlying9 (by simpa [ByteArray.size] using hx)) (plainElem_int Tryz.underlying3 hw)
  refine ⟨W', hrun, _, ho', hb.trans (grown_below hg (Nat.le_refl _) hb.size), fun s z => ?_⟩
  by_cases hs : s = x
  · subst hs
    rw [atKey_put_same ho.isMap (keyLit_str _)]
    simp only [rankF, if_true]
    rw [if_neg (by omega)]
  · rw [atKey_put_other (fun e => hs (by injection e)), ha s z]
    simp only [rankF, if_neg hs]
def rankL : List (Bts × Nat) := [([58], 6), ([37], 5), ([47], 5), ([42], 5), ([45], 4), ([43], 4), ([33, 61], 3), ([60, 61], 3), ([60], 3), ([62, 61], 3), ([62], 3), ([61], 3), ([38], 2), ([124], 1)]
theorem rankL_eq (s : Bts) : rankF rankL s = Lg.rank s := by
  by_cases h : Lg.rank s = 0
  · rw [h]
    have : ∀ l : List (Bts × Nat), (∀ x ∈ l, Lg.rank x.1 ≠ 0) → rankF l s = 0 := by
      intro l
      induction l with
      | nil => intro _; rfl
      | cons a r ih =>
        intro hl
        obtain ⟨x, k⟩ := a
        rw [rankF, if_neg (fun e => hl (x, k) (by simp) (by rw [← e]; exact h))]
        exact ih fun y hy => hl y (List.mem_cons_of_mem _ hy)
    exact this rankL (by decide)
  · have hm := Lg.signs_of h
    have hall : ∀ t ∈ ([[124], [38], [61], [62], [62, 61], [60], [60, 61], [33, 61], [43], [45], [42], [47], [37], [58]] : List Bts), rankF rankL t = Lg.rank t := by decide
    exact hall s hm
theorem RankUp.at_ {w W : World} {n : Nat} (h : RankUp w n rankL W) : RankAt W w.heap.size := by
  obtain ⟨D, ho, -, ha⟩ := h
  exact ⟨n, D, ho, fun s z => by rw [ha s z, rankL_eq]⟩

/-- What expr ends with. -/
def ExprQ (a0 : Bts) (x : Except Lg.Bad Bts) (st : Int) (out err : Bts) : Prop := match x with
  | .ok s => st = (if Lg.null s then 1 else 0) ∧ out = s ++ [10] ∧ err = []
  | .error bad => st = 2 ∧ out = [] ∧ err = diagOf a0 bad.1 bad.2
/-- What stands behind the reading. -/
def exprOf (y : Option (Lg.Nd × List Bts)) : Option (Except Lg.Bad Bts) := match y with
  | none => some (.error ([], 19))
  | some (n, r) => if r = [] then Lg.reckon foundF n else some (.error ([], 19))
theorem expr_of {f : Nat} {l : List Bts} {x : Except Lg.Bad Bts} (h : Lg.expr foundF f l = some x) : ∃ y, Lg.read f 1 l = some y ∧ exprOf y = some x := by
  unfold Lg.expr at h
  cases hr : Lg.read f 1 l with
  | none => rw [hr] at h; cases h
  | some y =>
    rw [hr] at h
    refine ⟨y, rfl, ?_⟩
    cases y with
    | none => exact h
    | some nr => exact h

set_option maxRecDepth 100000 in
set_option maxHeartbeats 4000000 in
theorem expr_any (F : Fx) (M : Nat → Prop) (inp a0 : Bts) (rest : List Bts) (ha : F.args = a0 :: rest) (hrest : rest ≠ []) (f : Nat) (x : Except Lg.Bad Bts) (hx : Lg.expr foundF f rest = some x) (hlen : ∀ s ∈ rest, s.length ≤ 100000000) (h0 : a0.length ≤ 1000000000) (hbad : ∀ bad, x = .error bad → bad.1.length ≤ 1000000000 ∧ bad.2 < 27 ∧ (diagOf a0 bad.1 bad.2).length ≤ 4294967296) (hok : ∀ s, x = .ok s → s.length ≤ 4000000000) (hgw : Glo F.w0) (W : World) (h : PrAt W F M inp [] []) (hg : GloL W) :
    Calls Tryz.prog 34 #[.pointer (some ⟨F.p, 0, none⟩)] W fun e W' => ∃ st inp' out' err' M', e = .returned (.int .i64 st) ∧ PrAt W' F M' inp' out' err' ∧ Mv M M' W W' ∧ ExprQ a0 x st out' err' := by
  have hmm := @run_makeMap Tryz.prog
  have hargs := args_any F M inp [] [] W h
  rw [ha] at hargs
  obtain ⟨y, hy, hxy⟩ := expr_of hx
  have hpos := List.length_pos_iff.2 hrest
  have hbig : rest.length < 1073741824 := by
    have h1 := h.fix.argsLen
    rw [ha, List.length_cons] at h1
    omega
  have H := Lib.hid h
  have HG := Lib.hid hg
  have HA := Lib.hid ha
  have HY := Lib.hid hy
  have HXY := Lib.hid hxy
  have HLEN := Lib.hid hlen
  have HA0 := Lib.hid h0
  have HBAD := Lib.hid hbad
  have HOK := Lib.hid hok
  have HBIG := Lib.hid hbig
  have HGW0 := Lib.hid hgw
  have hst : ∀ (e : Value) (W1 : World) (B : Nat), Below W.heap.size W W1 → BadAt W1 B e ([], 19) → W.heap.size ≤ B → x = .error ([], 19) →
      Calls Tryz.prog 54 #[.pointer (some ⟨F.p, 0, none⟩), e] W1 fun e W' => e = .returned (.int .i64 2) ∧ ∃ M', PrAt W' F M' inp [] (diagOf a0 [] 19) ∧ Mv M M' W1 W' := by
    intro e W1 B hb hbd hB hxx
    obtain ⟨b1, b2, b3⟩ := hbad _ hxx
    exact ends_any F M inp [] [] a0 rest ha W1 (h.below hb) (hg.below hb) B e _ hbd (fun j hj => Nat.lt_of_lt_of_le (h.lt j hj) hB) h0 b1 b2 (by simpa using b3)
  have HENDS := Lib.hid hst
  clear h hg ha hx hlen h0 hbad hrest hy hxy hok hbig hst hgw
  go_enter Tryz.func34, Tryz.ntmps34
  go_wp2_with fail
  refine hargs.mono ?_
  rintro e W1 ⟨v, rfl, ho1, hb1⟩
  clear hargs
  obtain ⟨g, c, rfl, hcl, -, -, hc⟩ := strs_cell ho1 0 (by simp)
  simp only [List.length_cons] at hcl ⊢
  have HCELL := Lib.hid hc
  have HC : Hid (rest.length ≤ c - 1) := Lib.hid (by omega)
  have HSUB : Hid (∀ i, i < rest.length → 1 + i < (a0 :: rest).length ∧ rest.getD i [] = (a0 :: rest).getD (1 + i) []) := Lib.hid (fun i hi => ⟨by simp; omega, by rw [Nat.add_comm]; rfl⟩)
  have HGW : Hid (g < W1.heap.size) := Lib.hid (World.block_lt_of_cell? _ _ (hc 0 (by simp)))
  have HB1 := Lib.hid hb1
  have l1 : (1 : Int) ≤ (rest.length + 1 : Nat) := by omega
  have l2 : (0 : Int) < (rest.length + 1 : Nat) := by omega
  have q1 : ¬ c - 1 = 0 := by omega
  have q2 : ¬ c ≤ 1 := by omega
  have q3 : 1 ≤ c := by omega
  have q4 : rest.length + 1 ≤ c := hcl
  have o0 : RankUp W1 0 [] (W1.alloc (.map #[] 0)) := ⟨_, World.ownsMap_made W1 Tryz.prog 9 (plainElem (H := Unit) Tryz.prog 3), (Below.refl _ _).alloc (Nat.le_refl _) _, fun s z => by simp [DataW.atKey, rankF]⟩
  obtain ⟨w1, e1, o1⟩ := o0.put (by decide) [124] 1 1 rfl (by decide) (by decide)
  obtain ⟨w2, e2, o2⟩ := o1.put (by decide) [38] 2 2 rfl (by decide) (by decide)
  obtain ⟨w3, e3, o3⟩ := o2.put (by decide) [61] 3 3 rfl (by decide) (by decide)
  obtain ⟨w4, e4, o4⟩ := o3.put (by decide) [62] 3 3 rfl (by decide) (by decide)
  obtain ⟨w5, e5, o5⟩ := o4.put (by decide) [62, 61] 3 3 rfl (by decide) (by decide)
  obtain ⟨w6, e6, o6⟩ := o5.put (by decide) [60] 3 3 rfl (by decide) (by decide)
  obtain ⟨w7, e7, o7⟩ := o6.put (by decide) [60, 61] 3 3 rfl (by decide) (by decide)
  obtain ⟨w8, e8, o8⟩ := o7.put (by decide) [33, 61] 3 3 rfl (by decide) (by decide)
  obtain ⟨w9, e9, o9⟩ := o8.put (by decide) [43] 4 4 rfl (by decide) (by decide)
  obtain ⟨w10, e10, o10⟩ := o9.put (by decide) [45] 4 4 rfl (by decide) (by decide)
  obtain ⟨w11, e11, o11⟩ := o10.put (by decide) [42] 5 5 rfl (by decide) (by decide)
  obtain ⟨w12, e12, o12⟩ := o11.put (by decide) [47] 5 5 rfl (by decide) (by decide)
  obtain ⟨w13, e13, o13⟩ := o12.put (by decide) [37] 5 5 rfl (by decide) (by decide)
  obtain ⟨w14, e14, o14⟩ := o13.put (by decide) [58] 6 6 rfl (by decide) (by decide)
  have hrank : RankAt w14 W1.heap.size := RankUp.at_ o14
  have hb14 : Below W1.heap.size W1 w14 := by obtain ⟨D, -, hb, -⟩ := o14; exact hb
  have hm14 : W1.heap.size < w14.heap.size := by obtain ⟨D, ho, -, -⟩ := o14; exact ho.lt
  obtain ⟨W2, hW2⟩ : ∃ W2, w14.alloc (.cells #[.slice (some ⟨g, 1, none⟩) rest.length (c - 1), .map (some W1.heap.size)] 164) = W2 := ⟨_, rfl⟩
  have hb2 : Below w14.heap.size w14 W2 := by rw [← hW2]; exact (Below.refl _ _).alloc (Nat.le_refl _) _
  have hs2 : W2.heap.size = w14.heap.size + 1 := by rw [← hW2]; simp
  have k2 : Blk W2 w14.heap.size #[.slice (some ⟨g, 1, none⟩) rest.length (c - 1), .map (some W1.heap.size)] 164 := by rw [← hW2]; exact Blk.new _ _ _
  have hbW2 : Below W1.heap.size W1 W2 := hb14.trans (hb2.mono hb14.size)
  have hrd : RdL W2 w14.heap.size W1.heap.size rest := ⟨⟨g, 1, c - 1, k2, by have := HGW.out; omega, HC.out, fun i hi => by
    obtain ⟨hi1, hi2⟩ := HSUB.out i hi
    have h3 := hc (1 + i) hi1
    rw [hi2]
    exact (hbW2.cell (p := ⟨g, 1 + i, none⟩) (by have := HGW.out; simpa using this)).trans (by simpa using h3)⟩, HLEN.out, HBIG.out⟩
  have hread := (read_all f).1 1 rest y HY.out (Nat.le_refl _) (by omega) W2 w14.heap.size W1.heap.size W2.heap.size hrd (hrank.kept (Kept.of_below (S := fun _ => False) hb2) fun h => h) (by omega) (by omega) (Nat.le_refl _)
  have HW2 := Lib.hid hW2
  have HB2 := Lib.hid (hb1.trans (hbW2.mono hb1.size))
  have HBR : Hid (W.heap.size ≤ w14.heap.size) := Lib.hid (Nat.le_trans hb1.size hb14.size)
  have hbrl : w14.heap.size < W2.heap.size := by omega
  clear hc ho1 hcl hb1 o0 o1 o2 o3 o4 o5 o6 o7 o8 o9 o10 o11 o12 o13 o14 hrank hb14 hm14 hW2 hb2 hs2 k2 hbW2 hrd
  go_wp2_with fail
  rw [HW2.out]
  clear e1 e2 e3 e4 e5 e6 e7 e8 e9 e10 e11 e12 e13 e14
  refine hread.mono ?_
  rintro e W3 ⟨hv, hk3⟩
  have hb3 : Below W.heap.size W W3 := HB2.out.trans ⟨hk3.os, hk3.tape, hk3.output, hk3.size, fun k hk => hk3.block k (Nat.lt_of_lt_of_le hk HB2.out.size) (by have := HBR.out; omega)⟩
  have HB3 := Lib.hid hb3
  clear hread hk3 hb3
  have hxy := HXY.out
  cases y with
  | none =>
    have hv : e = .returned (.pointer none) := hv
    subst hv
    injection hxy with hxy
    subst hxy
    go_wp2_with fail
    refine (usage_any _).mono ?_
    rintro e W4 ⟨v, rfl, hbd, hb4⟩
    have hends := HENDS.out v W4 _ (HB3.out.trans (hb4.mono HB3.out.size)) hbd HB3.out.size (by first | rfl | trivial)
    have HB4 := Lib.hid (HB3.out.trans (hb4.mono HB3.out.size))
    clear hbd hb4
    go_wp2_with fail
    refine hends.mono ?_
    rintro e W5 ⟨rfl, M', hp, hm⟩
    have HP := Lib.hid hp
    have HM := Lib.hid hm
    clear hends hp hm
    go_wp2_with fail
    go_ret
    exact ⟨_, inp, [], _, M', rfl, HP.out, (Mv.below HB4.out).trans HM.out, rfl, rfl, rfl⟩
  | some nr =>
    obtain ⟨n, r⟩ := nr
    obtain ⟨q, rfl, hn, hr⟩ := hv
    obtain ⟨g2, o2, c2, d0, -, -, -⟩ := hr.first
    clear hr
    by_cases hr0 : r = []
    · subst hr0
      have hxy : Lg.reckon foundF n = some x := hxy
      simp only [List.length_nil] at d0
      have HN := Lib.hid hn
      clear hn
      go_wp2_with fail
      refine (operators_any _).mono ?_
      rintro e W4 ⟨mo, rfl, -, ho4, hb4⟩
      have hrk := reckon_any mo n x hxy W4 W2.heap.size q (HN.out.kept (Kept.of_below (S := fun _ => False) hb4) fun _ _ h => h) ho4 (HG.out.glo.below (HB3.out.trans (hb4.mono HB3.out.size)))
      have HB4 := Lib.hid (HB3.out.trans (hb4.mono HB3.out.size))
      clear ho4 hb4 hxy d0
      go_wp2_with fail
      refine hrk.mono ?_
      rintro e W5 ⟨v, rfl, hv, hb5⟩
      have HB5 := Lib.hid (HB4.out.trans (hb5.mono HB4.out.size))
      clear hrk hb5
      cases x with
      | error bad =>
        obtain ⟨s, ev, rfl, hbd⟩ := hv
        obtain ⟨b1, b2, b3⟩ := HBAD.out bad rfl
        have hends := ends_any F M inp [] [] a0 rest HA.out W5 (H.out.below HB5.out) (HG.out.below HB5.out) W4.heap.size ev bad hbd (fun j hj => Nat.lt_of_lt_of_le (H.out.lt j hj) HB4.out.size) HA0.out b1 b2 (by simpa using b3)
        obtain ⟨z, rfl, -, -⟩ := hbd
        clear b1 b2 b3
        go_wp2_with fail
        refine hends.mono ?_
        rintro e W6 ⟨rfl, M', hp, hm⟩
        have HP := Lib.hid hp
        have HM := Lib.hid hm
        clear hends hp hm
        go_wp2_with fail
        go_ret
        exact ⟨_, inp, [], _, M', rfl, HP.out, (Mv.below HB5.out).trans HM.out, rfl, rfl, rfl⟩
      | ok s =>
        have hv : v = .tuple #[.string ⟨s.toArray⟩, .nilIface] := hv
        subst hv
        have hsl := HOK.out s rfl
        obtain ⟨S, hS⟩ : ∃ S, S = s ++ [10] := ⟨_, rfl⟩
        have hss : ((⟨s.toArray⟩ : ByteArray) ++ ⟨#[10]⟩) = ⟨S.toArray⟩ := by
          rw [hS]
          apply ByteArray.ext
          simp
        have g1 : ¬ 9223372036854775807 < s.length + 1 := by omega
        have hSl : S.length = s.length + 1 := by rw [hS]; simp
        have hSp : 0 < S.length := by omega
        have HSE := Lib.hid hS
        clear hS
        obtain ⟨cv, W6, hconv, hl1, hb6, hs6⟩ := Rg.conv_facts S W5
        have HB6 := Lib.hid (HB5.out.trans (hb6.mono HB5.out.size))
        have hsl6 : Sl W6 (fun g => ¬ M g) (.slice (some ⟨W5.heap.size, 0, none⟩) S.length cv) S := by
          obtain ⟨b, o, he, hc⟩ := hs6 hSp
          injection he with he
          injection he with he1 he2
          subst he1
          subst he2
          exact .inr ⟨_, 0, cv, rfl, hl1, World.block_lt_of_cell? _ _ (hc 0 hSp), fun hm => by have := H.out.lt _ hm; have := HB5.out.size; omega, hc⟩
        have hwr := wrAll_any1 F M inp [] [] S _ W6 (H.out.below HB6.out) hsl6 (by simp only [List.length_nil]; omega)
        have HSL := Lib.hid hsl
        clear hb6 hs6 hsl6 hl1 hsl hSl hSp
        go_wp2_with fail
        refine hwr.mono ?_
        rintro e W7 ⟨rfl, M', hp, hm⟩
        have HP := Lib.hid hp
        have HM := Lib.hid hm
        have hgl7 : Glo W7 := HGW0.out.from HP.out.fix.old
        have hnull := null_any s (by have := HSL.out; omega) W7 hgl7
        clear hwr hp hm hconv hgl7
        go_wp2_with fail
        refine hnull.mono ?_
        rintro e W8 ⟨rfl, hb8⟩
        have HB8 := Lib.hid hb8
        clear hnull hb8
        cases hnl : Lg.null s with
        | true =>
          go_wp2_with fail
          go_ret
          exact ⟨_, inp, _, [], M', rfl, HP.out.below HB8.out, ((Mv.below HB6.out).trans HM.out).trans (Mv.below HB8.out), by rw [hnl]; rfl, by rw [← HSE.out]; rfl, rfl⟩
        | false =>
          go_wp2_with fail
          go_ret
          exact ⟨_, inp, _, [], M', rfl, HP.out.below HB8.out, ((Mv.below HB6.out).trans HM.out).trans (Mv.below HB8.out), by rw [hnl]; rfl, by rw [← HSE.out]; rfl, rfl⟩
    · have hxy : (if r = [] then Lg.reckon foundF n else some (.error ([], 19))) = some x := hxy
      rw [if_neg hr0] at hxy
      injection hxy with hxy
      subst hxy
      have hrl : 0 < r.length := List.length_pos_iff.2 hr0
      have hrl2 : (0 : Int) < r.length := by omega
      clear hn hr0
      go_wp2_with fail
      refine (usage_any _).mono ?_
      rintro e W4 ⟨v, rfl, hbd, hb4⟩
      have hends := HENDS.out v W4 _ (HB3.out.trans (hb4.mono HB3.out.size)) hbd HB3.out.size (by first | rfl | trivial)
      have HB4 := Lib.hid (HB3.out.trans (hb4.mono HB3.out.size))
      clear hbd hb4 d0
      go_wp2_with fail
      refine hends.mono ?_
      rintro e W5 ⟨rfl, M', hp, hm⟩
      have HP := Lib.hid hp
      have HM := Lib.hid hm
      clear hends hp hm
      go_wp2_with fail
      go_ret
      exact ⟨_, inp, [], _, M', rfl, HP.out, (Mv.below HB4.out).trans HM.out, rfl, rfl, rfl⟩

end Go.Proofs.YtfgmmaahbngonaaGreatDoor

/-
  The walk of maps.Keys' iterator over an empty map. Condition: the map is empty.
-/
namespace Go.Proofs.YtfgmmaahbngonaaGreatDoor
open Go.RowKit Go.Shelf Go.Maps

/-- A range over an empty map: it begins, and has no entry. -/
theorem range_empty (w : World) (a : Nat) (ha : w.heap[a]? = some (.map #[] 0)) : (Instr.range 143 (.map (some a))).run Tryz.prog w = .ok (.pointer (some ⟨w.heap.size, 0, none⟩)) (w.alloc (.mapIter (some a) 0 #[] 0)) :=
  run_range_map w _ _ _ a #[] 0 Tryz.underlying143 ha
theorem next_empty (w : World) (ty : TypeId) (a r : Nat) (hr : w.heap[r]? = some (.mapIter (some a) 0 #[] 0)) (ha : w.heap[a]? = some (.map #[] 0)) : (Instr.next (.pointer (some ⟨r, 0, none⟩)) false ty).run Tryz.prog w = .ok (.tuple #[.bool false]) w := by
  rcases run_next_at (P := Tryz.prog) w ty r a 0 0 #[] #[] 0 hr ha (by simp) (Nat.le_refl _) with h | ⟨e, he, -⟩
  · exact h.2
  · simp [leftOf] at he

set_option maxRecDepth 100000 in
set_option maxHeartbeats 2000000 in
theorem keys1_calls (l Bn a : Nat) (W : World) (hB : W.cell? ⟨Bn, 0, none⟩ = some (.map (some a))) (ha : W.heap[a]? = some (.map #[] 0)) :
    Calls Tryz.prog 166 #[.func (.yield l) #[] #[], .pointer (some ⟨Bn, 0, none⟩)] W fun e W' => (∃ v, e = .returned v) ∧ W' = W.alloc (.mapIter (some a) 0 #[] 0) := by
  have hr := range_empty W a ha
  obtain ⟨w1, hw1⟩ : ∃ w1, W.alloc (.mapIter (some a) 0 #[] 0) = w1 := ⟨_, rfl⟩
  have hn : ∀ ty, (Instr.next (.pointer (some ⟨W.heap.size, 0, none⟩)) false ty).run Tryz.prog w1 = .ok (.tuple #[.bool false]) w1 := fun ty => next_empty w1 ty a W.heap.size (by rw [← hw1]; exact heap_alloc_new W _) (by rw [← hw1, heap_alloc_old W _ (lt_of_heap ha)]; exact ha)
  rw [hw1] at hr ⊢
  clear hw1
  go_enter Tryz.func166, Tryz.ntmps166
  go_wp2_with fail
  go_loopw [3] (fun _x3 wr => wr = w1) (fun _ _ => 0)
  case atStart => rfl
  case round =>
    obtain rfl := hrel
    go_wp2_with fail
    go_end0
    exact ⟨⟨_, rfl⟩, rfl⟩

end Go.Proofs.YtfgmmaahbngonaaGreatDoor

/-
  The walks of slices.AppendSeq, Collect, Sorted over the keys of an empty map; of a directory's sorted names, of which there are none.
-/
namespace Go.Proofs.YtfgmmaahbngonaaGreatDoor
open Go.RowKit Go.Shelf Go.Maps
attribute [local go_sem] Oper.semAt_some

/-- The iterator's contract: no round. -/
theorem keys1_stops (k n₀ Bn a : Nat) (w : World) (hB : w.cell? ⟨Bn, 0, none⟩ = some (.map (some a))) (ha : w.heap[a]? = some (.map #[] 0)) :
    SeqStopsK Fence.wide k Tryz.prog 166 #[.pointer (some ⟨Bn, 0, none⟩)] (fun v : ByteArray => #[Value.string v]) (Below n₀) (fun xs => xs = []) (fun _ => False) 0 w := by
  intro l J Jx W hW hJ _ _ h0
  have hl1 : Bn < w.heap.size := World.block_lt_of_cell? _ _ hB
  refine callsIn_wide.2 ((keys1_calls l Bn a W ((hW.cell (p := ⟨Bn, 0, none⟩) hl1).trans hB) ((hW.block a (lt_of_heap ha)).trans ha)).mono ?_)
  rintro e W' ⟨he, rfl⟩
  exact ⟨he, .inl ⟨[], rfl, hJ _ _ _ none h0 (World.grownBy_alloc _ _ none) (fun r e => by cases e)⟩⟩

set_option maxRecDepth 100000 in
set_option maxHeartbeats 2000000 in
theorem appendSeq_none (Bn a : Nat) (w : World) (hB : w.cell? ⟨Bn, 0, none⟩ = some (.map (some a))) (ha : w.heap[a]? = some (.map #[] 0)) :
    Calls Tryz.prog 206 #[.slice none 0 0, .func (.func 166) #[] #[.pointer (some ⟨Bn, 0, none⟩)]] w fun e w' => e = .returned (.slice none 0 0) ∧ Below w.heap.size w w' := by
  refine callsIn_wide.1 (callsIn_of_wp_marks (n := 2) Tryz.func206 rfl trivial ?_ rfl)
  simp only [Tryz.ntmps206, List.size_toArray, List.length_cons, List.length_nil, Nat.reduceAdd, Nat.reduceSub, Array.replicate_succ, Array.replicate_zero, List.push_toArray, List.append_toArray, List.nil_append, List.cons_append]
  gi_wp2
  have hx0 := one_new w (.slice none 0 0) 25
  have hB0 : Below w.heap.size w (w.alloc (.cells #[.slice none 0 0] 25)) := (Below.refl _ w).alloc (Nat.le_refl _) _
  have aB := (hB0.cell (p := ⟨Bn, 0, none⟩) (World.block_lt_of_cell? _ _ hB)).trans hB
  have aa := (hB0.block a (lt_of_heap ha)).trans ha
  refine wpIn_rangeFunc_ownF rfl (by decide) (gf := 166) (lb := #[.pointer (some ⟨Bn, 0, none⟩)]) rfl trivial (enters_of Tryz.func166 (by kernel_rfl) rfl)
    (keys1_stops 1 w.heap.size Bn a _ aB aa) belowK_t (belowK_b (by simp)) (Below.refl _ _) (fun _ => rfl)
    (fun pre W => (W.cell? ⟨w.heap.size, 0, none⟩ = some (.slice none 0 0)) ∧ Below w.heap.size w W)
    (fun _ _ _ => False)
    (OwnFrom.and (Own.from (fun s A B row hs hg hr => cell_kept hs hg hr) _) (ownFrom_below (Nat.le_refl _) (by simp)))
    (fun _ _ _ _ _ hs _ _ => hs)
    ⟨hx0.1, hB0⟩
    (fun v => { tmps := #[.slice none 0 0, .func (.func 166) #[] #[.pointer (some ⟨Bn, 0, none⟩)], .pointer (some ⟨w.heap.size, 0, none⟩), undef, .slice none 0 0, .string v, .func (.func 166) #[] #[.pointer (some ⟨Bn, 0, none⟩)], .string v, undef, undef, undef, undef, undef], defers := [] }) ?assign ?body ?done ?stop
  case assign =>
    intro l v W K hK
    gi_wp2
    exact hK
  case body =>
    intro l pre v W _ hl
    exact absurd hl (Nat.not_lt_zero _)
  case done =>
    rintro D ys W hD rfl ⟨c0, hB⟩ hK
    gi_wp2
    refine ⟨by simp, .inl ⟨_, _, rfl, run_takeDeferred hK, ?_⟩⟩
    refine ⟨.slice none 0 0, ?_, rfl, hB.trans (belowK_b (w := w) (Nat.le_refl _) _ D _ _ (by simp at hD; omega) hK rfl rfl)⟩
    simp [results, Tryz.results206, go_sem]
  case stop =>
    rintro D c pre W _ h _ _
    exact h.elim

end Go.Proofs.YtfgmmaahbngonaaGreatDoor

/-
  The walks of slices.Collect, Sorted over no keys; of a directory's sorted names, of which there are none.
-/
namespace Go.Proofs.YtfgmmaahbngonaaGreatDoor
open Go.RowKit Go.Shelf Go.Maps

set_option maxRecDepth 100000 in
theorem collect_none (Bn a : Nat) (w : World) (hB : w.cell? ⟨Bn, 0, none⟩ = some (.map (some a))) (ha : w.heap[a]? = some (.map #[] 0)) :
    Calls Tryz.prog 164 #[.func (.func 166) #[] #[.pointer (some ⟨Bn, 0, none⟩)]] w fun e w' => e = .returned (.slice none 0 0) ∧ Below w.heap.size w w' := by
  have c := appendSeq_none Bn a w hB ha
  clear hB ha
  go_enter Tryz.func164, Tryz.ntmps164
  go_wp2_with fail
  refine c.mono ?_
  rintro e w1 ⟨rfl, hb⟩
  have HB := Lib.hid hb
  clear hb c
  go_wp2_with fail
  go_ret
  exact ⟨rfl, HB.out⟩

set_option maxRecDepth 100000 in
theorem sorted_none (Bn a : Nat) (w : World) (hB : w.cell? ⟨Bn, 0, none⟩ = some (.map (some a))) (ha : w.heap[a]? = some (.map #[] 0)) :
    Calls Tryz.prog 127 #[.func (.func 166) #[] #[.pointer (some ⟨Bn, 0, none⟩)]] w fun e w' => e = .returned (.slice none 0 0) ∧ Below w.heap.size w w' := by
  have c := collect_none Bn a w hB ha
  clear hB ha
  go_enter Tryz.func127, Tryz.ntmps127
  go_wp2_with fail
  refine c.mono ?_
  rintro e w1 ⟨rfl, hb⟩
  have HB := Lib.hid hb
  clear hb c
  go_wp2_with fail
  refine (Any.slices_Sort_string_none Tryz.lays190 none 0 _).mono ?_
  rintro e w2 ⟨rfl, rfl⟩
  go_wp2_with fail
  go_ret
  exact ⟨rfl, HB.out⟩

set_option maxRecDepth 100000 in
theorem itemSorted_none (r a : Nat) (w : World) (hr : w.cell? ⟨r, 5, none⟩ = some (.map (some a))) (ha : w.heap[a]? = some (.map #[] 0)) :
    Calls Tryz.prog 79 #[.pointer (some ⟨r, 0, none⟩)] w fun e w' => e = .returned (.slice none 0 0) ∧ Below w.heap.size w w' := by
  have hmf : ∀ (fn : Fn) (first cap : Array Value) (w : World), (Instr.makeFunc fn first cap).run Tryz.prog w = .ok (.func fn first cap) w := fun _ _ _ _ => rfl
  have hk : Calls Tryz.prog 128 #[.map (some a)] w fun e w' => e = .returned (.func (.func 166) #[] #[.pointer (some ⟨w.heap.size, 0, none⟩)]) ∧ w' = w.alloc (.cells #[.map (some a)] 143) := by
    go_enter Tryz.func128, Tryz.ntmps128
    go_wp2_with fail
    go_ret
    exact ⟨rfl, rfl⟩
  have hlt := lt_of_heap ha
  have hs := sorted_none w.heap.size a (w.alloc (.cells #[.map (some a)] 143)) (one_new w _ _).1 ((Below.heap_alloc _ _ _ hlt).trans ha)
  clear ha
  go_enter Tryz.func79, Tryz.ntmps79
  go_wp2_with fail
  refine hk.mono ?_
  rintro e w1 ⟨rfl, rfl⟩
  go_wp2_with fail
  refine hs.mono ?_
  rintro e w2 ⟨rfl, hb⟩
  have HB := Lib.hid (below_new hb)
  clear hb hs hk
  go_wp2_with fail
  go_ret
  exact ⟨rfl, HB.out⟩

end Go.Proofs.YtfgmmaahbngonaaGreatDoor

/-
  The walks of a directory's walk, of its iterator: no entries. Condition: the directory has no names.
-/
namespace Go.Proofs.YtfgmmaahbngonaaGreatDoor
open Go.RowKit Go.Shelf Go.Maps
attribute [local go_sem] Oper.semAt_some

set_option maxRecDepth 100000 in
set_option maxHeartbeats 2000000 in
theorem walk1_calls (l B1 B2 r a : Nat) (W : World) (h1 : W.cell? ⟨B1, 0, none⟩ = some (.pointer (some ⟨r, 0, none⟩))) (hr : W.cell? ⟨r, 5, none⟩ = some (.map (some a))) (ha : W.heap[a]? = some (.map #[] 0)) :
    Calls Tryz.prog 78 #[.func (.yield l) #[] #[], .pointer (some ⟨B1, 0, none⟩), .pointer (some ⟨B2, 0, none⟩)] W fun e W' => (∃ v, e = .returned v) ∧ Below W.heap.size W W' := by
  have hs := fun o => itemSorted_none r a (W.alloc o) (new_cell hr o) ((Below.heap_alloc _ _ _ (lt_of_heap ha)).trans ha)
  have h1' := fun o => new_cell h1 o
  clear ha hr
  go_enter Tryz.func78, Tryz.ntmps78
  go_wp2_with fail
  refine (hs _).mono ?_
  rintro e w1 ⟨rfl, hb⟩
  have HB := Lib.hid (below_new hb)
  clear hb hs
  go_wp2_with fail
  go_loopw [5, 6, 7, 8, 12] (fun _x5 _x6 _x7 _x8 i wr => i = .int .i64 0 ∧ wr = w1) (fun _ _ _ _ _ _ => 0)
  case atStart => exact ⟨rfl, rfl⟩
  case round =>
    obtain ⟨rfl, rfl⟩ := hrel
    go_wp2_with fail
    go_end0
    exact ⟨⟨_, rfl⟩, HB.out⟩

end Go.Proofs.YtfgmmaahbngonaaGreatDoor

/-
  The walks of slices.SortFunc of no elements; of a directory's walk. Condition: there is nothing to be sorted.
-/
namespace Go.Proofs.YtfgmmaahbngonaaGreatDoor
open Go.RowKit Go.Shelf Go.Maps
attribute [local go_sem] Oper.semAt_some

set_option maxRecDepth 100000 in
set_option maxHeartbeats 2000000 in
theorem len0_any (w : World) : Calls Tryz.prog 81 #[.int .u64 0] w fun e w' => (∃ n, e = .returned (.int .i64 n)) ∧ w' = w := by
  have h : Calls Tryz.prog 36 #[.int .u64 0] w fun e w' => (∃ n, e = .returned (.int .i64 n)) ∧ w' = w := by
    go_enter Tryz.func36, Tryz.ntmps36
    go_wp2_with fail
    go_ret
    exact ⟨⟨_, rfl⟩, rfl⟩
  go_enter Tryz.func81, Tryz.ntmps81
  go_wp2_with fail
  refine h.mono ?_
  rintro e w1 ⟨⟨n, rfl⟩, rfl⟩
  go_wp2_with fail
  go_ret
  exact ⟨⟨_, rfl⟩, rfl⟩

set_option maxRecDepth 100000 in
set_option maxHeartbeats 2000000 in
theorem sortNone_any (f : Value) (w : World) : Calls Tryz.prog 51 #[.slice none 0 0, f] w fun e w' => (∃ v, e = .returned v) ∧ w' = w := by
  have hi : ∀ w, Calls Tryz.prog 129 #[.slice none 0 0, .int .i64 0, .int .i64 0, f] w fun e w' => (∃ v, e = .returned v) ∧ w' = w := by
    intro w
    go_enter Tryz.func129, Tryz.ntmps129
    go_wp2_with fail
    go_loopw [8, 9] (fun x8 _x9 wr => x8 = .int .i64 1 ∧ wr = w) (fun _ _ _ => 0)
    case atStart => exact ⟨rfl, rfl⟩
    case round =>
      obtain ⟨rfl, rfl⟩ := hrel
      go_wp2_with fail
      go_end0
      exact ⟨⟨_, rfl⟩, rfl⟩
  have hp : ∀ (n : Int) w, Calls Tryz.prog 80 #[.slice none 0 0, .int .i64 0, .int .i64 0, .int .i64 n, f] w fun e w' => (∃ v, e = .returned v) ∧ w' = w := by
    intro n w
    have hi' := hi
    go_enter Tryz.func80, Tryz.ntmps80
    go_wp2_with fail
    go_loopw [1, 2, 3, 10, 11, 12, 13, 14, 15, 16, 17, 18, 19, 20] (fun x1 x2 x3 x10 x11 _x12 _x13 _x14 _x15 _x16 _x17 _x18 _x19 _x20 wr => x1 = .int .i64 0 ∧ x2 = .int .i64 0 ∧ x3 = .int .i64 n ∧ x10 = .bool true ∧ x11 = .bool true ∧ wr = w) (fun _ _ _ _ _ _ _ _ _ _ _ _ _ _ _ => 0)
    case atStart => exact ⟨rfl, rfl, rfl, rfl, rfl, rfl⟩
    case round =>
      obtain ⟨rfl, rfl, rfl, rfl, rfl, rfl⟩ := hrel
      go_wp2_with fail
      refine (hi' _).mono ?_
      rintro e w1 ⟨⟨u, rfl⟩, rfl⟩
      go_wp2_with fail
      (try simp only [Exit.inBlock, Exit.then])
      exact bodyPost_ret (results_none rfl _ _ _) rfl ⟨⟨_, rfl⟩, rfl⟩
  go_enter Tryz.func51, Tryz.ntmps51
  go_wp2_with fail
  refine (len0_any _).mono ?_
  rintro e w1 ⟨⟨n, rfl⟩, rfl⟩
  go_wp2_with fail
  refine (hp _ _).mono ?_
  rintro e w2 ⟨⟨u, rfl⟩, rfl⟩
  go_wp2_with fail
  exact bodyPost_end (results_none rfl _ _ _) rfl ⟨⟨_, rfl⟩, rfl⟩

end Go.Proofs.YtfgmmaahbngonaaGreatDoor

/-
  The walk of tree.Dump at a tree of the root alone. Condition: the tree has the root alone.
-/
namespace Go.Proofs.YtfgmmaahbngonaaGreatDoor
open Go.RowKit Go.Shelf Go.Maps
attribute [local go_sem] Oper.semAt_some

theorem walk_any (r : Nat) (w : World) : Calls Tryz.prog 50 #[.pointer (some ⟨r, 0, none⟩), .string ⟨#[]⟩] w fun e w' => e = .returned (.func (.func 78) #[] #[.pointer (some ⟨w.heap.size, 0, none⟩), .pointer (some ⟨w.heap.size + 1, 0, none⟩)]) ∧ w' = (w.alloc (.cells #[.pointer (some ⟨r, 0, none⟩)] 132)).alloc (.cells #[.string ⟨#[]⟩] 9) := by
  have hmf : ∀ (fn : Fn) (first cap : Array Value) (w : World), (Instr.makeFunc fn first cap).run Tryz.prog w = .ok (.func fn first cap) w := fun _ _ _ _ => rfl
  go_enter Tryz.func50, Tryz.ntmps50
  go_wp2_with fail
  go_ret
  exact ⟨rfl, rfl⟩

theorem walk1_stops (k n₀ B1 B2 r a : Nat) (w : World) (h1 : w.cell? ⟨B1, 0, none⟩ = some (.pointer (some ⟨r, 0, none⟩))) (hr : w.cell? ⟨r, 5, none⟩ = some (.map (some a))) (ha : w.heap[a]? = some (.map #[] 0)) :
    SeqStopsK Fence.wide k Tryz.prog 78 #[.pointer (some ⟨B1, 0, none⟩), .pointer (some ⟨B2, 0, none⟩)] (fun v : ByteArray × Nat => #[Value.string v.1, Value.pointer (some ⟨v.2, 0, none⟩)]) (Below n₀) (fun xs => xs = []) (fun _ => False) 0 w := by
  intro l J Jx W hW hJ _ _ h0
  refine callsIn_wide.2 ((walk1_calls l B1 B2 r a W ((hW.cell (p := ⟨B1, 0, none⟩) (World.block_lt_of_cell? _ _ h1)).trans h1) ((hW.cell (p := ⟨r, 5, none⟩) (World.block_lt_of_cell? _ _ hr)).trans hr) ((hW.block a (lt_of_heap ha)).trans ha)).mono ?_)
  rintro e W' ⟨he, hb⟩
  exact ⟨he, .inl ⟨[], rfl, hJ _ _ _ none h0 ⟨hb.os, hb.tape, hb.output, hb.size, fun k hk _ => hb.block k hk⟩ (fun r e => by cases e)⟩⟩

set_option maxRecDepth 100000 in
set_option maxHeartbeats 2000000 in
theorem dump_none (t r a b : Nat) (w : World) (h : TreeAt w t r a b) :
    Calls Tryz.prog 29 #[.pointer (some ⟨t, 0, none⟩)] w fun e w' => e = .returned (.slice none 0 0) ∧ Below w.heap.size w w' := by
  have c0 := new_cell (h.1.cell 0 (v := .pointer (some ⟨r, 0, none⟩)) rfl) (.cells #[.slice none 0 0] 129)
  have hr := h.2.1.cell 5 (v := .map (some a)) rfl
  have ha := h.2.2.1
  clear h
  refine callsIn_wide.1 (callsIn_of_wp_marks (n := 2) Tryz.func29 rfl trivial ?_ rfl)
  simp only [Tryz.ntmps29, List.size_toArray, List.length_cons, List.length_nil, Nat.reduceAdd, Nat.reduceSub, Array.replicate_succ, Array.replicate_zero, List.push_toArray, List.append_toArray, List.nil_append, List.cons_append]
  gi_wp2_with (refine ⟨trivial, ?_⟩; gi_at_call 50; refine (callsIn_wide.2 (walk_any r _)).mono ?_; rintro e w' ⟨rfl, rfl⟩)
  have hx0 := one_new w (.slice none 0 0) 129
  have hx1 := one_new (w.alloc (.cells #[.slice none 0 0] 129)) (.pointer (some ⟨r, 0, none⟩)) 132
  simp only [World.size_alloc] at hx1
  have a0 := new_cell (new_cell hx0.1 (.cells #[.pointer (some ⟨r, 0, none⟩)] 132)) (.cells #[.string ⟨#[]⟩] 9)
  have a1 := new_cell hx1.1 (.cells #[.string ⟨#[]⟩] 9)
  have hB0 : Below w.heap.size w (((w.alloc (.cells #[.slice none 0 0] 129)).alloc (.cells #[.pointer (some ⟨r, 0, none⟩)] 132)).alloc (.cells #[.string ⟨#[]⟩] 9)) := (((Below.refl _ w).alloc (Nat.le_refl _) _).alloc (by simp) _).alloc (by simp; omega) _
  have ar := (hB0.cell (p := ⟨r, 5, none⟩) (World.block_lt_of_cell? _ _ hr)).trans hr
  have aa := (hB0.block a (lt_of_heap ha)).trans ha
  refine wpIn_rangeFunc_ownF rfl (by decide) (gf := 78) (lb := #[.pointer (some ⟨w.heap.size + 1, 0, none⟩), .pointer (some ⟨w.heap.size + 1 + 1, 0, none⟩)]) rfl trivial (enters_of Tryz.func78 (by kernel_rfl) rfl)
    (walk1_stops 1 w.heap.size (w.heap.size + 1) (w.heap.size + 1 + 1) r a _ a1 ar aa) belowK_t (belowK_b (by simp; omega)) (Below.refl _ _) (fun _ => rfl)
    (fun pre W => (W.cell? ⟨w.heap.size, 0, none⟩ = some (.slice none 0 0)) ∧ Below w.heap.size w W)
    (fun _ _ _ => False)
    (OwnFrom.and (Own.from (fun s A B row hs hg hr => cell_kept hs hg hr) _) (ownFrom_below (Nat.le_refl _) (by simp; omega)))
    (fun _ _ _ _ _ hs _ _ => hs)
    ⟨a0, hB0⟩
    (fun v => { tmps := #[.pointer (some ⟨t, 0, none⟩), undef, .slice none 0 0, .pointer (some ⟨w.heap.size, 0, none⟩), .string v.1, .pointer (some ⟨v.2, 0, none⟩), undef, undef, undef, undef, undef, undef, .pointer (some ⟨t, 0, none⟩), .pointer (some ⟨t, 0, none⟩), .pointer (some ⟨t, 0, none⟩), .pointer (some ⟨r, 0, none⟩), .func (.func 78) #[] #[.pointer (some ⟨w.heap.size + 1, 0, none⟩), .pointer (some ⟨w.heap.size + 1 + 1, 0, none⟩)], .string v.1, .pointer (some ⟨v.2, 0, none⟩), undef, undef, undef, undef, undef, undef, undef, undef, undef, undef, undef, undef, undef, undef, undef, undef, undef, undef, undef, undef, undef, undef, undef, undef, undef, undef, undef, undef, undef, undef, undef, undef, undef, undef, undef, undef, undef, undef, undef, undef, undef, undef, undef, undef, undef, undef, undef, undef, undef, undef, undef, undef, undef, undef, undef, undef, undef, undef, undef, undef, undef], defers := [] }) ?assign ?body ?done ?stop
  case assign =>
    intro l v W K hK
    gi_wp2
    exact hK
  case body =>
    intro l pre v W _ hl
    exact absurd hl (Nat.not_lt_zero _)
  case done =>
    rintro D ys W hD rfl ⟨q0, hB⟩ hK
    have q1 := new_cell q0 (.map #[] 0)
    have hmk : ∀ W, (Instr.makeMap 142 none).run Tryz.prog W = .ok (.map (some W.heap.size)) (W.alloc (.map #[] 0)) := fun _ => rfl
    gi_wp2_with (refine ⟨trivial, ?_⟩; gi_at_call 51; refine (callsIn_wide.2 (sortNone_any _ _)).mono ?_; rintro e w' ⟨⟨u, rfl⟩, rfl⟩)
    gi_loopw [7, 8, 9, 10, 11, 30] (fun x7 _x8 _x9 _x10 _x11 i wr => x7 = .slice none 0 0 ∧ i = .int .i64 0 ∧ wr = w'.alloc (.map #[] 0)) (fun _ _ _ _ _ _ _ => 0)
    case atStart => exact ⟨rfl, rfl, rfl⟩
    case round =>
      obtain ⟨rfl, rfl, rfl⟩ := hrel
      gi_wp2
      have hDl := lt_of_heap hK
      have hK2 : (w'.alloc (.map #[] 0)).heap[D]? = some (.deferred (some [])) := (Below.heap_alloc _ _ _ hDl).trans hK
      refine ⟨by simp, .inl ⟨_, _, rfl, run_takeDeferred hK2, ?_⟩⟩
      refine ⟨.slice none 0 0, ?_, rfl, (hB.alloc hB.size _).trans (belowK_b (w := w) (Nat.le_refl _) _ D _ _ (by simp at hD; omega) hK2 rfl rfl)⟩
      simp [results, Tryz.results29, go_sem]
  case stop =>
    rintro D c pre W _ h _ _
    exact h.elim

end Go.Proofs.YtfgmmaahbngonaaGreatDoor
