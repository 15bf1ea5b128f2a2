/-
  Texts of this seat put together: L7, L8, L9, L10, Dig, L11.
-/
import Derived.Test.YtfgmmaahbngonaaGreatDoorQ10
import Derived.Deep.LoopGhost
import Derived.Test.YtfgmmaahbngonaaGreatDoorQ3
import Derived.Test.YtfgmmaahbngonaaGreatDoorQ2
import Derived.Shelf.Bits.Mul64

/-
  The walk of ends: what is said of an error of logic's own. Conditions: what the library's variables hold; a process that runs; lengths.
-/
namespace Go.Proofs.YtfgmmaahbngonaaGreatDoor
open Go.RowKit Go.Shelf Go.Maps

theorem asWorld_below (w : World) (e : Addr) (k : Nat) (B : Nat) (hB : B ≤ w.heap.size) (hk : B ≤ k) : Below B w (asWorld w e ⟨k, 0, none⟩) := by
  unfold asWorld
  refine Below.setCell (((((Below.refl _ _).alloc hB _).alloc ?_ _).alloc ?_ _).alloc ?_ _) hk _
  all_goals (simp only [World.size_alloc]; omega)
theorem asWorld_cell (w : World) (e : Addr) (k : Nat) (hk : k < w.heap.size) (v : Value) (hv : w.cell? ⟨k, 0, none⟩ = some v) : (asWorld w e ⟨k, 0, none⟩).cell? ⟨k, 0, none⟩ = some (.pointer (some e)) := by
  unfold asWorld
  rw [World.cell?_setCell_same _ _ _ (by
    rw [World.cell?_alloc_lt _ _ ⟨k, 0, none⟩ (by simp; omega), World.cell?_alloc_lt _ _ ⟨k, 0, none⟩ (by simp; omega), World.cell?_alloc_lt _ _ ⟨k, 0, none⟩ (by simp; omega), World.cell?_alloc_lt _ _ ⟨k, 0, none⟩ hk]
    exact hv)]

theorem kept_cell {S : Nat → Prop} {W W' : World} {b i : Nat} {v : Value} (hk : Kept S W W') (hb : ¬ S b) (hc : W.cell? ⟨b, i, none⟩ = some v) : W'.cell? ⟨b, i, none⟩ = some v := by
  have := hk.block b (World.block_lt_of_cell? _ _ hc) hb
  unfold World.cell? at hc ⊢
  simp only [this]
  exact hc

set_option maxRecDepth 100000 in
set_option maxHeartbeats 4000000 in
theorem ends_any (F : Fx) (M : Nat → Prop) (inp out err a0 : Bts) (rest : List Bts) (ha : F.args = a0 :: rest) (W : World) (h : PrAt W F M inp out err) (hg : GloL W) (B : Nat) (v : Value) (bad : Lg.Bad) (hbad : BadAt W B v bad) (hMB : ∀ j, M j → j < B) (h1 : a0.length ≤ 1000000000) (h2 : bad.1.length ≤ 1000000000) (h3 : bad.2 < 27) (hbig : err.length + (diagOf a0 bad.1 bad.2).length ≤ 4294967296) :
    Calls Tryz.prog 54 #[.pointer (some ⟨F.p, 0, none⟩), v] W fun e W' => e = .returned (.int .i64 2) ∧ ∃ M', PrAt W' F M' inp out (err ++ diagOf a0 bad.1 bad.2) ∧ Mv M M' W W' := by
  obtain ⟨q, rfl, hBq, hq⟩ := hbad
  have hMq : ¬ M q := fun hm => by have := hMB q hm; omega
  have hMs : ¬ M W.heap.size := fun hm => by have := h.lt _ hm; omega
  obtain ⟨W1, hW1⟩ : ∃ W1, W.alloc (.cells #[.pointer none] 190) = W1 := ⟨_, rfl⟩
  have hb1 : Below W.heap.size W W1 := by rw [← hW1]; exact (Below.refl _ _).alloc (Nat.le_refl _) _
  have hs1 : W1.heap.size = W.heap.size + 1 := by rw [← hW1]; simp
  have k1 : Blk W1 W.heap.size #[.pointer none] 190 := by rw [← hW1]; exact Blk.new _ _ _
  have has := as_hit ⟨q, 0, none⟩ ⟨W.heap.size, 0, none⟩ (.pointer none) W1 (hg.below hb1).ety (k1.cell 0 rfl) (k1.free 0)
  obtain ⟨W2, hW2⟩ : ∃ W2, asWorld W1 ⟨q, 0, none⟩ ⟨W.heap.size, 0, none⟩ = W2 := ⟨_, rfl⟩
  have hb2 : Below W.heap.size W W2 := by rw [← hW2]; exact hb1.trans (asWorld_below W1 _ _ _ hb1.size (Nat.le_refl _))
  have c2 : W2.cell? ⟨W.heap.size, 0, none⟩ = some (.pointer (some ⟨q, 0, none⟩)) := by rw [← hW2]; exact asWorld_cell W1 _ _ (by omega) _ (k1.cell 0 rfl)
  have q2 := hq.keep hb2 hq.lt
  have d0 := q2.cell 0 (v := .string ⟨bad.1.toArray⟩) rfl
  have d1 := q2.cell 1 (v := .int .i64 bad.2) rfl
  rw [hW2] at has
  have HSAY : Hid (∀ W3, Below W.heap.size W W3 → Calls Tryz.prog 63 #[.pointer (some ⟨F.p, 0, none⟩), .string ⟨bad.1.toArray⟩, .int .i64 bad.2] W3 fun x w' => (∃ v, x = .returned v) ∧ ∃ M', PrAt w' F M' inp out (err ++ diagOf a0 bad.1 bad.2) ∧ Mv M M' W3 w') := Lib.hid (fun W3 hW3 => say_any F M inp out err a0 bad.1 rest bad.2 h3 W3 (h.below hW3) ha h1 h2 hbig)
  have HW1 := Lib.hid hW1
  have HB2 := Lib.hid hb2
  clear hW1 hb1 hs1 k1 hW2 hq hg h q2 ha h1 h2 h3 hbig hb2
  go_enter Tryz.func54, Tryz.ntmps54
  go_wp2_with fail
  rw [HW1.out]
  refine has.mono ?_
  rintro e W3 ⟨rfl, rfl⟩
  clear has
  go_wp2_with fail
  go_region_held3 (fun w' => w'.cell? ⟨W.heap.size, 0, none⟩ = some (.pointer (some ⟨q, 0, none⟩)) ∧ w'.cell? ⟨q, 0, none⟩ = some (.string ⟨bad.1.toArray⟩) ∧ w'.cell? ⟨q, 1, none⟩ = some (.int .i64 bad.2)) (first | go_keep | with_reducible exact HS.out)
    ((go_at_call 63; refine (HSAY.out _ (by first | exact HB2.out.drew | exact HB2.out)).mono ?_; rintro e W4 ⟨⟨v, rfl⟩, M', hp, hm⟩; have HP := Lib.hid hp; have HS := Lib.hid (And.intro (kept_cell hm.kept hMs c2) (And.intro (kept_cell hm.kept hMq d0) (kept_cell hm.kept hMq d1))); have HM := Lib.hid hm; clear hp hm))
  go_wp2_with fail
  go_ret
  exact ⟨rfl, M', HP.out, (Mv.below HB2.out.drew).trans HM.out⟩

end Go.Proofs.YtfgmmaahbngonaaGreatDoor

/-
  The walks of test's main and of its start. Conditions: what the library's variables hold; a process that runs; operands that the spec tells of; lengths.
-/
namespace Go.Proofs.YtfgmmaahbngonaaGreatDoor
open Go.RowKit Go.Shelf Go.Maps

/-- What test ends with. -/
def TestQ (a0 : Bts) (x : Except Lg.Bad Bool) (st : Int) (out err : Bts) : Prop := match x with
  | .ok y => st = (if y then 0 else 1) ∧ out = [] ∧ err = []
  | .error bad => st = 2 ∧ out = [] ∧ err = diagOf a0 bad.1 bad.2
theorem ss_sub' {W W' : World} {b : Nat} {l : List Bts} {k : Nat} {l' : List Bts} (h : ∀ i, i < l.length → W.cell? ⟨b, i, none⟩ = some (strV (l.getD i []))) (hs : ∀ i, i < l'.length → k + i < l.length ∧ l'.getD i [] = l.getD (k + i) []) (hb : Below W.heap.size W W') : Ss W' (some ⟨b, k, none⟩) l' := by
  have := ss_sub (o := 0) (fun i hi => by rw [Nat.zero_add]; exact h i hi) k l' hs hb
  rwa [Nat.zero_add] at this

set_option maxRecDepth 100000 in
set_option maxHeartbeats 8000000 in
theorem test_plain (F : Fx) (M : Nat → Prop) (inp a0 : Bts) (rest : List Bts) (ha : F.args = a0 :: rest) (hne : a0 ≠ [91]) (hrest : rest ≠ []) (x : Except Lg.Bad Bool) (hx : Lg.holds 8 rest = some x) (hlen : ∀ s ∈ rest, s.length ≤ 140737488351232) (h0 : a0.length ≤ 1000000000) (hbad : ∀ bad, x = .error bad → bad.1.length ≤ 1000000000 ∧ bad.2 < 27 ∧ (diagOf a0 bad.1 bad.2).length ≤ 4294967296) (W : World) (h : PrAt W F M inp [] []) (hg : GloL W) :
    Calls Tryz.prog 33 #[.pointer (some ⟨F.p, 0, none⟩)] W fun e W' => ∃ st inp' out' err' M', e = .returned (.int .i64 st) ∧ PrAt W' F M' inp' out' err' ∧ Mv M M' W W' ∧ TestQ a0 x st out' err' := by
  have hargs := args_any F M inp [] [] W h
  rw [ha] at hargs
  have hpos := List.length_pos_iff.2 hrest
  have H := Lib.hid h
  have HG := Lib.hid hg
  have HA := Lib.hid ha
  have HX := Lib.hid hx
  have HLEN := Lib.hid hlen
  have HA0 := Lib.hid h0
  have HBAD := Lib.hid hbad
  have e0 : (a0 == [91]) = false := by simpa using hne
  clear h hg ha hx hlen h0 hbad hne hrest
  go_enter Tryz.func33, Tryz.ntmps33
  go_wp2_with fail
  refine hargs.mono ?_
  rintro e W1 ⟨v, rfl, ho1, hb1⟩
  clear hargs
  obtain ⟨g, c, rfl, hcl, -, -, hc⟩ := strs_cell ho1 0 (by simp)
  have c0 := hc 0 (by simp)
  simp only [List.getD_cons_zero, strV] at c0
  simp only [List.length_cons] at hcl ⊢
  have HCELL := Lib.hid hc
  have HC : Hid (rest.length ≤ c - 1) := Lib.hid (by omega)
  have HSUB : Hid (∀ i, i < rest.length → 1 + i < (a0 :: rest).length ∧ rest.getD i [] = (a0 :: rest).getD (1 + i) []) := Lib.hid (fun i hi => ⟨by simp; omega, by rw [Nat.add_comm]; rfl⟩)
  have HB1 := Lib.hid hb1
  have l1 : (1 : Int) ≤ (rest.length + 1 : Nat) := by omega
  have l2 : (0 : Int) < (rest.length + 1 : Nat) := by omega
  have q1 : ¬ c - 1 = 0 := by omega
  have q2 : ¬ c ≤ 1 := by omega
  have q3 : 1 ≤ c := by omega
  have q4 : rest.length + 1 ≤ c := hcl
  clear hc ho1 hcl hb1
  go_wp2_with fail
  refine (files_any _).mono ?_
  rintro e W2 ⟨mf, rfl, hb2⟩
  have HB2 := Lib.hid hb2
  clear hb2
  go_wp2_with fail
  refine (orders_any [45, 101, 113] [45, 110, 101] [45, 103, 116] [45, 103, 101] [45, 108, 116] [45, 108, 101] (by decide) (by decide) (by decide) (by decide) (by decide) (by decide) (by decide) _).mono ?_
  rintro e W3 ⟨mo, rfl, -, hor, hb3⟩
  obtain ⟨W4, hW4⟩ : ∃ W4, W3.alloc (.cells #[.pointer (some ⟨F.p, 0, none⟩), .map (some mf), .map (some mo)] 158) = W4 := ⟨_, rfl⟩
  have hb4 : Below W3.heap.size W3 W4 := by rw [← hW4]; exact (Below.refl _ _).alloc (Nat.le_refl _) _
  have htest : TesterAt W4 W3.heap.size F.p mf mo := ⟨by rw [← hW4]; exact Blk.new _ _ _, hor.below hb4⟩
  have hb13 := HB2.out.trans (hb3.mono HB2.out.size)
  have hb14 := hb13.trans (hb4.mono hb13.size)
  have hbW4 := HB1.out.trans (hb14.mono HB1.out.size)
  have hhold := holds_all 8 (rest) x HX.out HLEN.out W4 (some ⟨g, 1, none⟩) (c - 1) W3.heap.size F.p mf mo HC.out (ss_sub' HCELL.out HSUB.out hb14) (HG.out.glo.below hbW4) htest
  have HW4 := Lib.hid hW4
  have HB4 := Lib.hid hbW4
  clear hW4 hb4 htest hbW4 hor hb3 hb13 hb14
  go_wp2_with fail
  try rw [HW4.out]
  refine hhold.mono ?_
  rintro e W5 ⟨v, rfl, ⟨b1, e1, rfl, hv⟩, hb5⟩
  have HB5 := Lib.hid (HB4.out.trans (hb5.mono HB4.out.size))
  clear hhold hb5
  cases x with
  | error bad =>
    obtain ⟨q, rfl, hq, hbq⟩ := hv
    have hends := ends_any F M inp [] [] a0 rest HA.out W5 (H.out.below HB5.out) (HG.out.below HB5.out) W.heap.size _ bad ⟨q, rfl, Nat.le_trans HB4.out.size hq, hbq⟩ H.out.lt HA0.out (HBAD.out bad rfl).1 (HBAD.out bad rfl).2.1 (by simpa using (HBAD.out bad rfl).2.2)
    clear hq hbq
    go_wp2_with fail
    refine hends.mono ?_
    rintro e W6 ⟨rfl, M', hp, hm⟩
    have HP := Lib.hid hp
    have HM := Lib.hid hm
    clear hends hp hm
    go_wp2_with fail
    go_ret
    exact ⟨_, inp, [], _, M', rfl, HP.out, (Mv.below HB5.out).trans HM.out, rfl, rfl, rfl⟩
  | ok y =>
    obtain ⟨rfl, rfl⟩ := hv
    cases b1 with
    | true =>
      go_wp2_with fail
      go_ret
      exact ⟨_, inp, [], [], M, rfl, H.out.below HB5.out, Mv.below HB5.out, rfl, rfl, rfl⟩
    | false =>
      go_wp2_with fail
      go_ret
      exact ⟨_, inp, [], [], M, rfl, H.out.below HB5.out, Mv.below HB5.out, rfl, rfl, rfl⟩

set_option maxRecDepth 100000 in
set_option maxHeartbeats 8000000 in
theorem test_bracket (F : Fx) (M : Nat → Prop) (inp : Bts) (r : List Bts) (ha : F.args = [91] :: (r ++ [[93]])) (x : Except Lg.Bad Bool) (hx : Lg.holds 8 r = some x) (hlen : ∀ s ∈ r, s.length ≤ 140737488351232) (hbad : ∀ bad, x = .error bad → bad.1.length ≤ 1000000000 ∧ bad.2 < 27 ∧ (diagOf [91] bad.1 bad.2).length ≤ 4294967296) (W : World) (h : PrAt W F M inp [] []) (hg : GloL W) :
    Calls Tryz.prog 33 #[.pointer (some ⟨F.p, 0, none⟩)] W fun e W' => ∃ st inp' out' err' M', e = .returned (.int .i64 st) ∧ PrAt W' F M' inp' out' err' ∧ Mv M M' W W' ∧ TestQ [91] x st out' err' := by
  have hargs := args_any F M inp [] [] W h
  obtain ⟨a0, ha0⟩ : ∃ a0 : Bts, a0 = [91] := ⟨_, rfl⟩
  obtain ⟨rest, hr⟩ : ∃ rest, rest = r ++ [[93]] := ⟨_, rfl⟩
  rw [← ha0, ← hr] at ha
  rw [← ha0]
  have h0 : a0.length ≤ 1000000000 := by rw [ha0]; decide
  have e0 : (a0 == [91]) = true := by simp [ha0]
  rw [ha] at hargs
  have H := Lib.hid h
  have HG := Lib.hid hg
  have HA := Lib.hid ha
  have HX := Lib.hid hx
  have HLEN := Lib.hid hlen
  have HA0 := Lib.hid h0
  have HBAD : Hid (∀ bad, x = .error bad → bad.1.length ≤ 1000000000 ∧ bad.2 < 27 ∧ (diagOf a0 bad.1 bad.2).length ≤ 4294967296) := Lib.hid (by rw [ha0]; exact hbad)
  have hl : rest.length = r.length + 1 := by rw [hr]; simp
  have hlast : (a0 :: rest).getD (r.length + 1) [] = [93] := by rw [hr]; simp
  have hget : ∀ i, i < r.length → r.getD i [] = (a0 :: rest).getD (1 + i) [] := fun i hi => by
    rw [Nat.add_comm, hr]
    simp [List.getD_eq_getElem?_getD, List.getElem?_append_left hi]
  clear h hg ha hx hlen h0 hbad ha0 hr
  go_enter Tryz.func33, Tryz.ntmps33
  go_wp2_with fail
  refine hargs.mono ?_
  rintro e W1 ⟨v, rfl, ho1, hb1⟩
  clear hargs
  obtain ⟨g, c, rfl, hcl, -, -, hc⟩ := strs_cell ho1 0 (by simp)
  have c0 := hc 0 (by simp)
  have cz := hc (r.length + 1) (by simp [hl])
  rw [hlast] at cz
  simp only [List.getD_cons_zero, strV] at c0 cz
  simp only [List.length_cons, hl] at hcl ⊢
  have HCELL := Lib.hid hc
  have HC : Hid (r.length ≤ c - 1) := Lib.hid (by omega)
  have HSUB : Hid (∀ i, i < r.length → 1 + i < (a0 :: rest).length ∧ r.getD i [] = (a0 :: rest).getD (1 + i) []) := Lib.hid (fun i hi => ⟨by simp [hl]; omega, hget i hi⟩)
  have HB1 := Lib.hid hb1
  obtain ⟨n, hn⟩ : ∃ n, r.length = n := ⟨_, rfl⟩
  rw [hn] at cz hcl ⊢
  have hbig : n + 2 < 1073741824 := by
    have h1 := H.out.fix.argsLen
    have h2 : F.args.length = n + 1 + 1 := by rw [HA.out, List.length_cons, hl, hn]
    omega
  rw [show n + 1 = 1 + n by omega] at cz
  have l1 : (1 : Int) ≤ (n + 1 + 1 : Nat) := by omega
  have l2 : (0 : Int) < (n + 1 + 1 : Nat) := by omega
  have l3 : wrap64 (n : Int) = n := by unfold wrap64; omega
  have l4 : IntKind.i64.wrap (n : Int) = n := by rw [IntKind.wrap_i64]; omega
  have l5 : ¬ (n : Int) + 1 = 0 := by omega
  have l6 : (n : Int) < n + 1 := by omega
  have l7 : (n : Int) ≤ n + 1 := by omega
  have q1 : ¬ c - 1 = 0 := by omega
  have q2 : ¬ c ≤ 1 := by omega
  have q3 : 1 ≤ c := by omega
  have q4 : n + 1 + 1 ≤ c := hcl
  have q5 : n + 1 ≤ c - 1 := by omega
  have q6 : (0 : Int) ≤ n := by omega
  have HN := Lib.hid hn
  clear hc ho1 hcl hb1 hget hlast hn hl hbig
  go_wp2_with fail
  refine (files_any _).mono ?_
  rintro e W2 ⟨mf, rfl, hb2⟩
  have HB2 := Lib.hid hb2
  clear hb2
  go_wp2_with fail
  refine (orders_any [45, 101, 113] [45, 110, 101] [45, 103, 116] [45, 103, 101] [45, 108, 116] [45, 108, 101] (by decide) (by decide) (by decide) (by decide) (by decide) (by decide) (by decide) _).mono ?_
  rintro e W3 ⟨mo, rfl, -, hor, hb3⟩
  obtain ⟨W4, hW4⟩ : ∃ W4, W3.alloc (.cells #[.pointer (some ⟨F.p, 0, none⟩), .map (some mf), .map (some mo)] 158) = W4 := ⟨_, rfl⟩
  have hb4 : Below W3.heap.size W3 W4 := by rw [← hW4]; exact (Below.refl _ _).alloc (Nat.le_refl _) _
  have htest : TesterAt W4 W3.heap.size F.p mf mo := ⟨by rw [← hW4]; exact Blk.new _ _ _, hor.below hb4⟩
  have hb13 := HB2.out.trans (hb3.mono HB2.out.size)
  have hb14 := hb13.trans (hb4.mono hb13.size)
  have hbW4 := HB1.out.trans (hb14.mono HB1.out.size)
  have hhold := holds_all 8 (r) x HX.out HLEN.out W4 (some ⟨g, 1, none⟩) (c - 1) W3.heap.size F.p mf mo HC.out (ss_sub' HCELL.out HSUB.out hb14) (HG.out.glo.below hbW4) htest
  rw [HN.out] at hhold
  have HW4 := Lib.hid hW4
  have HB4 := Lib.hid hbW4
  clear hW4 hb4 htest hbW4 hor hb3 hb13 hb14
  go_wp2_with fail
  try rw [HW4.out]
  refine hhold.mono ?_
  rintro e W5 ⟨v, rfl, ⟨b1, e1, rfl, hv⟩, hb5⟩
  have HB5 := Lib.hid (HB4.out.trans (hb5.mono HB4.out.size))
  clear hhold hb5
  cases x with
  | error bad =>
    obtain ⟨q, rfl, hq, hbq⟩ := hv
    have hends := ends_any F M inp [] [] a0 rest HA.out W5 (H.out.below HB5.out) (HG.out.below HB5.out) W.heap.size _ bad ⟨q, rfl, Nat.le_trans HB4.out.size hq, hbq⟩ H.out.lt HA0.out (HBAD.out bad rfl).1 (HBAD.out bad rfl).2.1 (by simpa using (HBAD.out bad rfl).2.2)
    clear hq hbq
    go_wp2_with fail
    refine hends.mono ?_
    rintro e W6 ⟨rfl, M', hp, hm⟩
    have HP := Lib.hid hp
    have HM := Lib.hid hm
    clear hends hp hm
    go_wp2_with fail
    go_ret
    exact ⟨_, inp, [], _, M', rfl, HP.out, (Mv.below HB5.out).trans HM.out, rfl, rfl, rfl⟩
  | ok y =>
    obtain ⟨rfl, rfl⟩ := hv
    cases b1 with
    | true =>
      go_wp2_with fail
      go_ret
      exact ⟨_, inp, [], [], M, rfl, H.out.below HB5.out, Mv.below HB5.out, rfl, rfl, rfl⟩
    | false =>
      go_wp2_with fail
      go_ret
      exact ⟨_, inp, [], [], M, rfl, H.out.below HB5.out, Mv.below HB5.out, rfl, rfl, rfl⟩

end Go.Proofs.YtfgmmaahbngonaaGreatDoor

/-
  The walks of expr's reader: next, operand, read. Conditions: the texts lie in memory; the map of ranks is the reader's own.
-/
namespace Go.Proofs.YtfgmmaahbngonaaGreatDoor
open Go.RowKit Go.Shelf Go.Maps

/-- The map of ranks. -/
def RankAt (W : World) (m : Nat) : Prop := ∃ n D, W.ownsMap Tryz.prog 9 (plainElem (H := Unit) Tryz.prog 3) m n D ∧ ∀ (s : Bts) z, D.atKey (.string s) z = if Lg.rank s = 0 then z else .lit (.int .i64 (Lg.rank s))
theorem RankAt.kept {W W' : World} {m : Nat} {S : Nat → Prop} (h : RankAt W m) (hk : Kept S W W') (hm : ¬ S m) : RankAt W' m := by
  obtain ⟨n, D, ho, ha⟩ := h
  exact ⟨n, D, map_as ho (hk.block m ho.lt hm), ha⟩
theorem rank_look {W : World} {m : Nat} (h : RankAt W m) (s : Bts) (hs : s.length ≤ maxLen) : (Instr.lookup 162 (.map (some m)) (.string ⟨s.toArray⟩) false).run Tryz.prog W = .ok (.int .i64 (Lg.rank s)) W := by
  obtain ⟨n, D, ho, ha⟩ := h
  obtain ⟨x, hrun, hx, -⟩ := ho.lookup_int kStr (t := 162) Tryz.underlying162 Tryz.underlying3 (by kernel_rfl) (key := .string ⟨s.toArray⟩) (kl := .string s) (Go.WideMaps.keyOf_string_mk Tryz.underlying9 (by simpa [ByteArray.size] using hs))
  rw [ha s] at hx
  rw [hrun]
  by_cases hf : Lg.rank s = 0
  · rw [if_pos hf] at hx
    simp only [DataW.lit.injEq, Lit.int.injEq, true_and] at hx
    rw [← hx, hf]; rfl
  · rw [if_neg hf] at hx
    simp only [DataW.lit.injEq, Lit.int.injEq, true_and] at hx
    rw [← hx]

/-- expr's reader: what is left to be read. -/
structure RdL (W : World) (br m : Nat) (l : List Bts) : Prop where
  at_ : ∃ g o c, Blk W br #[.slice (some ⟨g, o, none⟩) l.length c, .map (some m)] 164 ∧ g ≠ br ∧ l.length ≤ c ∧ ∀ i, i < l.length → W.cell? ⟨g, o + i, none⟩ = some (strV (l.getD i []))
  lens : ∀ s ∈ l, s.length ≤ 100000000
  big : l.length < 1073741824
theorem kept_cell' {S : Nat → Prop} {W W' : World} {b i : Nat} {v : Value} (hk : Kept S W W') (hb : ¬ S b) (hc : W.cell? ⟨b, i, none⟩ = some v) : W'.cell? ⟨b, i, none⟩ = some v := kept_cell hk hb hc
/-- What is left turns: the slice moves on. -/
theorem RdL.next {W : World} {br m : Nat} {o : Bts} {r : List Bts} (h : RdL W br m (o :: r)) : ∃ g k c, Blk W br #[.slice (some ⟨g, k, none⟩) (r.length + 1) c, .map (some m)] 164 ∧ r.length + 1 ≤ c ∧ W.cell? ⟨g, k, none⟩ = some (.string ⟨o.toArray⟩) ∧
    ∀ (W' : World) (g' k' c' : Nat), (g' = g ∧ (k' = k + 1 ∨ r = []) ∧ r.length ≤ c') → Kept (· = br) W W' → Blk W' br #[.slice (some ⟨g', k', none⟩) r.length c', .map (some m)] 164 → RdL W' br m r := by
  obtain ⟨⟨g, k, c, hb, hg, hc, hcell⟩, hl, hbig⟩ := h
  refine ⟨g, k, c, hb, by simpa using hc, hcell 0 (by simp), ?_⟩
  rintro W' g' k' c' ⟨rfl, hk, hc'⟩ hkept hb'
  refine ⟨⟨g', k', c', hb', hg, hc', fun i hi => ?_⟩, fun s hs => hl s (List.mem_cons_of_mem _ hs), by simp at hbig; omega⟩
  rcases hk with rfl | rfl
  · rw [Nat.add_assoc]
    refine kept_cell hkept hg ?_
    rw [hcell (1 + i) (by simp; omega), Nat.add_comm]
    rfl
  · simp at hi

/-- A node in memory. -/
def NdA (W : World) (B : Nat) : Nat → Lg.Nd → Prop
  | q, .val s => B ≤ q ∧ Blk W q #[.string ⟨s.toArray⟩, .string ⟨#[]⟩, .pointer none, .pointer none] 208
  | q, .bin o a b => o ≠ [] ∧ B ≤ q ∧ ∃ qa qb, Blk W q #[.string ⟨#[]⟩, .string ⟨o.toArray⟩, .pointer (some ⟨qa, 0, none⟩), .pointer (some ⟨qb, 0, none⟩)] 208 ∧ NdA W B qa a ∧ NdA W B qb b
theorem NdA.kept {S : Nat → Prop} {W W' : World} {B : Nat} (hk : Kept S W W') (hS : ∀ k, B ≤ k → ¬ S k) : ∀ {n : Lg.Nd} {q : Nat}, NdA W B q n → NdA W' B q n
  | .val _, q, h => ⟨h.1, h.2.kept hk (hS q h.1)⟩
  | .bin _ _ _, q, ⟨h0, h1, qa, qb, h2, h3, h4⟩ => ⟨h0, h1, qa, qb, h2.kept hk (hS q h1), h3.kept hk hS, h4.kept hk hS⟩
theorem rank_ne {o : Bts} {k : Nat} (h : Lg.rank o = k) (hk : 1 ≤ k) : o ≠ [] := by
  rintro rfl
  have : Lg.rank [] = 0 := rfl
  omega

theorem kept_drewN (S : Nat → Prop) (W : World) (n : Nat) : Kept S W (W.drewN n) := ⟨rfl, rfl, rfl, Nat.le_refl _, fun _ _ _ => rfl⟩
/-- What next hands back and leaves. -/
def NextPost (br m k : Nat) (W : World) (l : List Bts) (e : Ending) (W' : World) : Prop := Kept (· = br) W W' ∧ match l with
  | [] => e = .returned (.tuple #[.string ⟨#[]⟩, .bool false]) ∧ RdL W' br m []
  | o :: r => if Lg.rank o = k then e = .returned (.tuple #[.string ⟨o.toArray⟩, .bool true]) ∧ RdL W' br m r else e = .returned (.tuple #[.string ⟨#[]⟩, .bool false]) ∧ RdL W' br m (o :: r)
theorem RdL.kept {W W' : World} {br m : Nat} {l : List Bts} (h : RdL W br m l) (hk : Kept (fun _ => False) W W') : RdL W' br m l := by
  obtain ⟨⟨g, k, c, hb, hg, hc, hcell⟩, hl, hbig⟩ := h
  exact ⟨⟨g, k, c, hb.kept hk (fun h => h), hg, hc, fun i hi => kept_cell hk (fun h => h) (hcell i hi)⟩, hl, hbig⟩

set_option maxRecDepth 100000 in
set_option maxHeartbeats 1600000 in
theorem next_any (br m k : Nat) (l : List Bts) (W : World) (h : RdL W br m l) (hm : RankAt W m) :
    Calls Tryz.prog 99 #[.pointer (some ⟨br, 0, none⟩), .int .i64 k] W fun e W' => NextPost br m k W l e W' := by
  cases l with
  | nil =>
    obtain ⟨g, o, c, hb, -, hc, -⟩ := h.at_
    have c0 := hb.cell 0 (v := .slice (some ⟨g, o, none⟩) 0 c) rfl
    have H := Lib.hid h
    clear hb hc h hm
    go_enter Tryz.func99, Tryz.ntmps99
    go_wp2_with fail
    go_quiet (fail)
    go_wp2_with fail
    go_ret2
    exact ⟨kept_drewN _ _ _, rfl, H.out.kept (kept_drewN _ _ _)⟩
  | cons o r =>
    obtain ⟨g, s, c, hb, hc, hcell, hnext⟩ := h.next
    have hlook := fun n => rank_look (hm.kept (kept_drewN (fun _ => False) W n) (fun h => h)) o (by have := h.lens o (by simp); unfold maxLen; omega)
    have c0 := hb.cell 0 (v := .slice (some ⟨g, s, none⟩) (r.length + 1) c) rfl
    have c1 := hb.cell 1 (v := .map (some m)) rfl
    have l1 : (0 : Int) < (r.length + 1 : Nat) := by omega
    have l2 : ((r.length + 1 : Nat) : Int) ≠ 0 := by omega
    have l3 : (((r.length : Nat) : Int) + 1 == 0) = false := by simp; omega
    have l4 : ¬ ((r.length : Nat) : Int) + 1 = 0 := by omega
    have l5 : (0 : Int) < (r.length : Nat) + 1 := by omega
    have l6 : (1 : Int) ≤ (r.length : Nat) + 1 := by omega
    have H := Lib.hid h
    have HB := Lib.hid hb
    have HN := Lib.hid hnext
    unfold NextPost
    by_cases hr : Lg.rank o = k
    · have e1 : (((Lg.rank o : Nat) : Int) == (k : Int)) = true := by rw [hr]; simp
      have e2 : (((Lg.rank o : Nat) : Int) != (k : Int)) = false := by rw [hr]; simp
      have f0 := hb.free 0
      simp only [if_pos hr]
      clear h hm hb hnext hr
      by_cases hc1 : c = 1
      · subst hc1
        have hr0 : r = [] := List.eq_nil_of_length_eq_zero (by omega)
        have q1 : r.length = 0 := by rw [hr0]; rfl
        have HR := Lib.hid hr0
        clear hr0 hc
        go_enter Tryz.func99, Tryz.ntmps99
        go_wp2_with fail
        go_quiet (fail)
        go_wp2_with fail
        go_ret2
        exact ⟨(kept_drewN (· = br) W nq).setCell (.inl rfl) 0 _, rfl, HN.out _ g s 0 ⟨rfl, .inr HR.out, by omega⟩ ((kept_drewN (· = br) W nq).setCell (.inl rfl) 0 _) (by have := (HB.out.drewN nq).set 0 (.slice (some ⟨g, s, none⟩) r.length 0); first | exact this | (simp only [q1] at this ⊢; exact this))⟩
      · have q1 : ¬ c - 1 = 0 := by omega
        have q2 : ¬ c ≤ 1 := by omega
        have q3 : 1 ≤ c := by omega
        clear hc1
        go_enter Tryz.func99, Tryz.ntmps99
        go_wp2_with fail
        go_quiet (fail)
        go_wp2_with fail
        go_ret2
        exact ⟨(kept_drewN (· = br) W nq).setCell (.inl rfl) 0 _, rfl, HN.out _ g (s + 1) (c - 1) ⟨rfl, .inl rfl, by omega⟩ ((kept_drewN (· = br) W nq).setCell (.inl rfl) 0 _) (by have := (HB.out.drewN nq).set 0 (.slice (some ⟨g, s + 1, none⟩) r.length (c - 1)); exact this)⟩
    · have e1 : (((Lg.rank o : Nat) : Int) == (k : Int)) = false := by simp; omega
      have e2 : (((Lg.rank o : Nat) : Int) != (k : Int)) = true := by simp; omega
      simp only [if_neg hr]
      clear h hm hb hnext hr
      go_enter Tryz.func99, Tryz.ntmps99
      go_wp2_with fail
      go_quiet (fail)
      go_wp2_with fail
      go_ret2
      exact ⟨kept_drewN _ _ _, rfl, H.out.kept (kept_drewN _ _ _)⟩

end Go.Proofs.YtfgmmaahbngonaaGreatDoor

/-
  The walks of expr's operand and read: what the spec reads. Conditions: the texts lie in memory; the map of ranks is the reader's own.
-/
namespace Go.Proofs.YtfgmmaahbngonaaGreatDoor
open Go.RowKit Go.Shelf Go.Maps

/-- What reading hands back. -/
def ReadVal (B br m : Nat) (x : Option (Lg.Nd × List Bts)) (e : Ending) (W' : World) : Prop := match x with
  | none => e = .returned (.pointer none)
  | some (n, r) => ∃ q, e = .returned (.pointer (some ⟨q, 0, none⟩)) ∧ NdA W' B q n ∧ RdL W' br m r
def ReadPost (B br m : Nat) (W : World) (x : Option (Lg.Nd × List Bts)) (e : Ending) (W' : World) : Prop := ReadVal B br m x e W' ∧ Kept (· = br) W W'
def ReadC (f : Nat) : Prop := ∀ (k : Nat) (l : List Bts) (x : Option (Lg.Nd × List Bts)), Lg.read f k l = some x → 1 ≤ k → k ≤ 7 → ∀ (W : World) (br m B : Nat), RdL W br m l → RankAt W m → m ≠ br → br < B → B ≤ W.heap.size →
  Calls Tryz.prog 59 #[.pointer (some ⟨br, 0, none⟩), .int .i64 k] W fun e W' => ReadPost B br m W x e W'
def OperC (f : Nat) : Prop := ∀ (l : List Bts) (x : Option (Lg.Nd × List Bts)), Lg.operand f l = some x → ∀ (W : World) (br m B : Nat), RdL W br m l → RankAt W m → m ≠ br → br < B → B ≤ W.heap.size →
  Calls Tryz.prog 98 #[.pointer (some ⟨br, 0, none⟩)] W fun e W' => ReadPost B br m W x e W'

/-- What stands first, loaded. -/
theorem RdL.first {W : World} {br m : Nat} {l : List Bts} (h : RdL W br m l) : ∃ g o c, W.cell? ⟨br, 0, none⟩ = some (.slice (some ⟨g, o, none⟩) l.length c) ∧ W.frozen? ⟨br, 0, none⟩ = false ∧ l.length ≤ c ∧ ∀ s r, l = s :: r → W.cell? ⟨g, o, none⟩ = some (.string ⟨s.toArray⟩) := by
  obtain ⟨g, o, c, hb, -, hc, hcell⟩ := h.at_
  refine ⟨g, o, c, hb.cell 0 rfl, hb.free 0, hc, ?_⟩
  rintro s r rfl
  exact hcell 0 (by simp)
/-- The slice, moved on by one. -/
theorem RdL.move {W : World} {br m : Nat} {s : Bts} {r : List Bts} (h : RdL W br m (s :: r)) : ∃ g o c, W.cell? ⟨br, 0, none⟩ = some (.slice (some ⟨g, o, none⟩) (r.length + 1) c) ∧ W.frozen? ⟨br, 0, none⟩ = false ∧ r.length + 1 ≤ c ∧ W.cell? ⟨g, o, none⟩ = some (.string ⟨s.toArray⟩) ∧
    ∀ (k' c' : Nat), (k' = o + 1 ∨ r = []) → r.length ≤ c' → RdL (W.setCell ⟨br, 0, none⟩ (.slice (some ⟨g, k', none⟩) r.length c')) br m r ∧ Kept (· = br) W (W.setCell ⟨br, 0, none⟩ (.slice (some ⟨g, k', none⟩) r.length c')) := by
  obtain ⟨g, o, c, hb, hc, hcell, hn⟩ := h.next
  refine ⟨g, o, c, hb.cell 0 rfl, hb.free 0, hc, hcell, fun k' c' hk hc' => ?_⟩
  have hkp : Kept (· = br) W (W.setCell ⟨br, 0, none⟩ (.slice (some ⟨g, k', none⟩) r.length c')) := (Kept.refl (· = br) W).setCell (.inl rfl) 0 _
  exact ⟨hn _ g k' c' ⟨rfl, hk, hc'⟩ hkp (hb.set 0 _), hkp⟩

set_option maxRecDepth 100000 in
set_option maxHeartbeats 4000000 in
theorem operand_step (f : Nat) (IH : ReadC f) : OperC (f + 1) := by
  intro l x hx W br m B h hm hmb hB hBW
  unfold Lg.operand at hx
  cases l with
  | nil =>
    injection hx with hx
    subst hx
    obtain ⟨g, o, c, c0, -, -, -⟩ := h.first
    simp only [List.length_nil] at c0
    clear h hm
    go_enter Tryz.func98, Tryz.ntmps98
    go_wp2_with fail
    go_ret
    exact ⟨rfl, Kept.refl _ _⟩
  | cons s r =>
    simp only at hx
    obtain ⟨g, o, c, c0, f0, hc, cs, hmv⟩ := h.move
    have l3 : (((r.length : Nat) : Int) + 1 == 0) = false := by simp; omega
    have l4 : ¬ ((r.length : Nat) : Int) + 1 = 0 := by omega
    have l5 : (0 : Int) < (r.length : Nat) + 1 := by omega
    have l6 : (1 : Int) ≤ (r.length : Nat) + 1 := by omega
    by_cases h1 : s = [41]
    · rw [if_pos h1] at hx
      injection hx with hx
      subst hx
      have e1 : (s == [41]) = true := by simp [h1]
      clear h hm hmv h1
      go_enter Tryz.func98, Tryz.ntmps98
      go_wp2_with fail
      go_ret
      exact ⟨rfl, Kept.refl _ _⟩
    rw [if_neg h1] at hx
    have e1 : (s == [41]) = false := by simpa using h1
    have HX := Lib.hid hx
    have HMV := Lib.hid hmv
    have HM := Lib.hid hm
    have HBW := Lib.hid (And.intro hB hBW)
    clear hx h hm hmv h1 hB hBW
    go_enter Tryz.func98, Tryz.ntmps98
    go_upto_region 4 with fail
    go_cut [31] (fun _x31 wx => Hid (RdL wx br m r) ∧ Hid (Kept (· = br) W wx))
    case first =>
      rcases Nat.lt_or_ge 1 c with hc2 | hc2
      · have hz : ¬ c - 1 = 0 := by omega
        have hz2 : ¬ c ≤ 1 := by omega
        have hz3 : 1 ≤ c := by omega
        go_wp2_with fail
        go_meet
        exact ⟨Lib.hid (HMV.out (o + 1) (c - 1) (.inl rfl) (by omega)).1, Lib.hid (HMV.out (o + 1) (c - 1) (.inl rfl) (by omega)).2⟩
      · obtain rfl : c = 1 := by omega
        obtain rfl : r = [] := List.eq_nil_of_length_eq_zero (by omega)
        go_wp2_with fail
        go_meet
        exact ⟨Lib.hid (HMV.out o 0 (.inr trivial) (by simp)).1, Lib.hid (HMV.out o 0 (.inr trivial) (by simp)).2⟩
    case rest =>
    obtain ⟨HR, HK⟩ := hcut
    obtain ⟨W1, hW1⟩ : ∃ W1, W1 = wc := ⟨_, rfl⟩
    subst hW1
    clear HMV c0 f0 cs
    by_cases h2 : s = [40]
    · have hx := HX.out
      rw [if_neg (by simpa using h2)] at hx
      have e2 : (s == [40]) = true := by simp [h2]
      have e2' : (s != [40]) = false := by simp [h2]
      have hm1 : RankAt W1 m := HM.out.kept HK.out hmb
      have hB1 : B ≤ W1.heap.size := Nat.le_trans HBW.out.2 HK.out.size
      cases hrd : Lg.read f 1 r with
      | none => rw [hrd] at hx; cases hx
      | some y =>
        have hcall := IH 1 r y hrd (Nat.le_refl _) (by omega) W1 br m B HR.out hm1 hmb HBW.out.1 hB1
        rw [hrd] at hx
        clear HX hrd h2 hm1 hB1
        cases y with
        | none =>
          injection hx with hx
          subst hx
          go_wp2_with fail
          refine hcall.mono ?_
          rintro e W2 ⟨hv, hk⟩
          have hv : e = .returned (.pointer none) := hv
          subst hv
          have HK2 := Lib.hid (HK.out.trans hk)
          clear hk hcall
          go_wp2_with fail
          go_ret
          exact ⟨rfl, HK2.out⟩
        | some nr =>
          obtain ⟨n, l1⟩ := nr
          simp only at hx
          go_wp2_with fail
          refine hcall.mono ?_
          rintro e W2 ⟨⟨q, rfl, hn, hr2⟩, hk⟩
          have HK2 := Lib.hid (HK.out.trans hk)
          have HN := Lib.hid hn
          clear hk hcall hn
          cases l1 with
          | nil =>
            injection hx with hx
            subst hx
            obtain ⟨g2, o2, c2, d0, -, -, -⟩ := hr2.first
            simp only [List.length_nil] at d0
            clear hr2
            go_wp2_with fail
            go_ret
            exact ⟨rfl, HK2.out⟩
          | cons t r1 =>
            simp only at hx
            obtain ⟨g2, o2, c2, d0, d1, hc2, ds, hmv2⟩ := hr2.move
            have k3 : (((r1.length : Nat) : Int) + 1 == 0) = false := by simp; omega
            have k4 : ¬ ((r1.length : Nat) : Int) + 1 = 0 := by omega
            have k5 : (0 : Int) < (r1.length : Nat) + 1 := by omega
            have k6 : (1 : Int) ≤ (r1.length : Nat) + 1 := by omega
            have HMV2 := Lib.hid hmv2
            clear hr2 hmv2
            by_cases h3 : t = [41]
            · rw [if_pos h3] at hx
              injection hx with hx
              subst hx
              have e3 : (t == [41]) = true := by simp [h3]
              have e3' : (t != [41]) = false := by simp [h3]
              clear h3
              go_upto_region 10 with fail
              go_cut [65] (fun _x65 wx => Hid (RdL wx br m r1) ∧ Hid (Kept (· = br) W2 wx))
              case first =>
                rcases Nat.lt_or_ge 1 c2 with hc3 | hc3
                · have hz : ¬ c2 - 1 = 0 := by omega
                  have hz2 : ¬ c2 ≤ 1 := by omega
                  have hz3 : 1 ≤ c2 := by omega
                  go_wp2_with fail
                  go_meet
                  exact ⟨Lib.hid (HMV2.out (o2 + 1) (c2 - 1) (.inl rfl) (by omega)).1, Lib.hid (HMV2.out (o2 + 1) (c2 - 1) (.inl rfl) (by omega)).2⟩
                · obtain rfl : c2 = 1 := by omega
                  obtain rfl : r1 = [] := List.eq_nil_of_length_eq_zero (by omega)
                  go_wp2_with fail
                  go_meet
                  exact ⟨Lib.hid (HMV2.out o2 0 (.inr trivial) (by simp)).1, Lib.hid (HMV2.out o2 0 (.inr trivial) (by simp)).2⟩
              case rest =>
              obtain ⟨HR3, HK3⟩ := hcut
              obtain ⟨W3, hW3⟩ : ∃ W3, W3 = wc := ⟨_, rfl⟩
              subst hW3
              clear HMV2 d0 d1 ds
              go_wp2_with fail
              go_ret
              exact ⟨⟨q, rfl, HN.out.kept HK3.out (fun k hk e => by have := HBW.out.1; omega), HR3.out⟩, HK2.out.trans HK3.out⟩
            · rw [if_neg h3] at hx
              injection hx with hx
              subst hx
              have e3 : (t == [41]) = false := by simpa using h3
              have e3' : (t != [41]) = true := by simpa using h3
              clear h3
              go_wp2_with fail
              go_ret
              exact ⟨rfl, HK2.out⟩
    · have hx := HX.out
      rw [if_pos h2] at hx
      injection hx with hx
      subst hx
      have e2 : (s == [40]) = false := by simpa using h2
      have e2' : (s != [40]) = true := by simpa using h2
      clear HX h2
      go_wp2_with fail
      go_ret
      have hka : Kept (· = br) W1 (W1.alloc (.cells #[.string ⟨s.toArray⟩, .string ⟨#[]⟩, .pointer none, .pointer none] 208)) := (Kept.refl _ _).alloc _
      refine ⟨⟨_, rfl, ⟨Nat.le_trans HBW.out.2 HK.out.size, Blk.new _ _ _⟩, ?_⟩, HK.out.trans hka⟩
      exact HR.out.kept ((Kept.refl _ _).alloc _)

set_option maxRecDepth 100000 in
set_option maxHeartbeats 4000000 in
theorem read_step (f : Nat) (IH : ∀ g, g ≤ f → ReadC g) (IHo : OperC f) : ReadC (f + 1) := by
  intro k l x hx hk1 hk7 W br m B h hm hmb hB hBW
  unfold Lg.read at hx
  by_cases h7 : 6 < k
  · rw [if_pos h7] at hx
    have hcall := IHo l x hx W br m B h hm hmb hB hBW
    have e1 : decide ((6 : Int) < k) = true := by simp; omega
    have e2 : (6 : Int) < k := by omega
    clear hx h hm IH IHo h7
    go_enter Tryz.func59, Tryz.ntmps59
    go_wp2_with fail
    refine hcall.mono ?_
    intro e W1 hp
    have HP : Hid (ReadPost B br m W x e W1) := Lib.hid hp
    cases x with
    | none =>
      obtain ⟨hv, -⟩ := hp
      have hv : e = .returned (.pointer none) := hv
      subst hv
      clear hcall
      go_wp2_with fail
      go_ret
      exact HP.out
    | some nr =>
      obtain ⟨n, r⟩ := nr
      obtain ⟨⟨q, rfl, -, -⟩, -⟩ := hp
      clear hcall
      go_wp2_with fail
      go_ret
      exact HP.out
  rw [if_neg h7] at hx
  have e1 : decide ((6 : Int) < k) = false := by simp; omega
  have e2 : ¬ (6 : Int) < k := by omega
  have w1 : wrap64 ((k : Int) + 1) = ((k + 1 : Nat) : Int) := by unfold wrap64; omega
  have w2 : IntKind.i64.wrap ((k : Int) + 1) = ((k + 1 : Nat) : Int) := by rw [IntKind.wrap_i64]; omega
  have HM := Lib.hid hm
  have HBW := Lib.hid (And.intro hB hBW)
  have HKK := Lib.hid (And.intro hk1 (show k + 1 ≤ 7 by omega))
  cases hrd : Lg.read f (k + 1) l with
  | none => rw [hrd] at hx; cases hx
  | some y =>
    have hcall := IH f (Nat.le_refl _) (k + 1) l y hrd (by omega) (by omega) W br m B h hm hmb hB hBW
    rw [hrd] at hx
    have IHH := Lib.hid IH
    clear hrd h hm hB hBW h7 IH IHo hk1 hk7
    cases y with
    | none =>
      injection hx with hx
      subst hx
      go_enter Tryz.func59, Tryz.ntmps59
      go_wp2_with fail
      refine hcall.mono ?_
      rintro e W1 ⟨hv, hk⟩
      have hv : e = .returned (.pointer none) := hv
      subst hv
      have HK := Lib.hid hk
      clear hcall hk
      go_wp2_with fail
      go_loopg [5, 6, 7, 8] 0 (fun _g x5 _x6 _x7 _x8 wr => x5 = .pointer none ∧ wr = W1)
      case atStart => exact ⟨rfl, rfl⟩
      case round =>
        obtain ⟨rfl, rfl⟩ := hrel
        go_wp2_with fail
        go_ret
        exact ⟨rfl, HK.out⟩
    | some nr =>
      obtain ⟨a0, l0⟩ := nr
      simp only at hx
      go_enter Tryz.func59, Tryz.ntmps59
      go_wp2_with fail
      refine hcall.mono ?_
      rintro e W1 ⟨⟨q0, rfl, hn0, hr0⟩, hk⟩
      have HX0 := Lib.hid hx
      have HN0 := Lib.hid hn0
      have HR0 := Lib.hid hr0
      have HK := Lib.hid hk
      clear hcall hk hn0 hr0 hx
      go_wp2_with fail
      go_loopg [5, 6, 7, 8] f (fun g x5 _x6 _x7 _x8 wr => ∃ (q : Nat) (n : Lg.Nd) (l1 : List Bts), x5 = .pointer (some ⟨q, 0, none⟩) ∧ g ≤ f ∧ Hid (Lg.more g k n l1 = some x) ∧ Hid (NdA wr B q n) ∧ Hid (RdL wr br m l1) ∧ Hid (Kept (· = br) W wr))
      case atStart => exact ⟨q0, a0, l0, rfl, Nat.le_refl _, HX0, HN0, HR0, HK⟩
      case round =>
        obtain ⟨q, n, l1, rfl, hgf, HX, HN, HR, HKR⟩ := hrel
        have hx := HX.out
        cases gk with
        | zero => cases hx
        | succ g =>
          unfold Lg.more at hx
          have hmr : RankAt wr m := HM.out.kept HKR.out hmb
          have hnext := next_any br m k l1 wr HR.out hmr
          clear HX HX0 HN0 HR0 HK
          cases l1 with
          | nil =>
            injection hx with hx
            subst hx
            go_wp2_with fail
            refine hnext.mono ?_
            rintro e W2 ⟨hk2, rfl, hr2⟩
            have HK2 := Lib.hid hk2
            have HR2 := Lib.hid hr2
            clear hnext hk2 hr2
            go_wp2_with fail
            go_ret
            exact ⟨⟨q, rfl, HN.out.kept HK2.out (fun j hj e => by have := HBW.out.1; omega), HR2.out⟩, HKR.out.trans HK2.out⟩
          | cons op r =>
            simp only at hx
            by_cases hr : Lg.rank op = k
            · rw [if_pos hr] at hx
              have HO := Lib.hid (rank_ne hr HKK.out.1)
              unfold NextPost at hnext
              simp only [if_pos hr] at hnext
              cases hrd : Lg.read g (k + 1) r with
              | none => rw [hrd] at hx; cases hx
              | some y =>
                rw [hrd] at hx
                have HX := Lib.hid hx
                have HRD := Lib.hid hrd
                clear hx hr hrd
                go_wp2_with fail
                refine hnext.mono ?_
                rintro e W2 ⟨hk2, rfl, hr2⟩
                have hk02 := HKR.out.trans hk2
                have hcall := IHH.out g (by omega) (k + 1) r y HRD.out (by omega) HKK.out.2 W2 br m B hr2 (HM.out.kept hk02 hmb) hmb HBW.out.1 (Nat.le_trans HBW.out.2 hk02.size)
                have HN2 := Lib.hid (HN.out.kept hk2 (fun j hj e => by have := HBW.out.1; omega))
                have HK2 := Lib.hid hk02
                clear hnext hk2 hr2 hk02
                cases y with
                | none =>
                  have hx := HX.out
                  injection hx with hx
                  subst hx
                  go_wp2_with fail
                  refine hcall.mono ?_
                  rintro e W3 ⟨hv, hk3⟩
                  have hv : e = .returned (.pointer none) := hv
                  subst hv
                  have HK3 := Lib.hid (HK2.out.trans hk3)
                  clear hcall hk3
                  go_wp2_with fail
                  go_ret
                  exact ⟨rfl, HK3.out⟩
                | some br2 =>
                  obtain ⟨b, l2⟩ := br2
                  go_wp2_with fail
                  refine hcall.mono ?_
                  rintro e W3 ⟨⟨q2, rfl, hn3, hr3⟩, hk3⟩
                  have HK3 := Lib.hid (HK2.out.trans hk3)
                  have HN3 := Lib.hid hn3
                  have HNN := Lib.hid (HN2.out.kept hk3 (fun j hj e => by have := HBW.out.1; omega))
                  have HR3 := Lib.hid hr3
                  clear hcall hk3 hn3 hr3
                  go_wp2_with fail
                  go_roundg g
                  case measure => omega
                  case rel =>
                    have hka : Kept (fun _ => False) W3 (W3.alloc (.cells #[.string ⟨#[]⟩, .string ⟨op.toArray⟩, .pointer (some ⟨q, 0, none⟩), .pointer (some ⟨q2, 0, none⟩)] 208)) := (Kept.refl _ _).alloc _
                    have hka2 : Kept (· = br) W3 (W3.alloc (.cells #[.string ⟨#[]⟩, .string ⟨op.toArray⟩, .pointer (some ⟨q, 0, none⟩), .pointer (some ⟨q2, 0, none⟩)] 208)) := (Kept.refl _ _).alloc _
                    exact ⟨_, .bin op n b, l2, rfl, by omega, HX, Lib.hid ⟨HO.out, Nat.le_trans HBW.out.2 HK3.out.size, q, q2, Blk.new _ _ _, HNN.out.kept hka fun _ _ h => h, HN3.out.kept hka fun _ _ h => h⟩, Lib.hid (HR3.out.kept hka), Lib.hid (HK3.out.trans hka2)⟩
            · rw [if_neg hr] at hx
              injection hx with hx
              subst hx
              unfold NextPost at hnext
              simp only [if_neg hr] at hnext
              clear hr
              go_wp2_with fail
              refine hnext.mono ?_
              rintro e W2 ⟨hk2, rfl, hr2⟩
              have HK2 := Lib.hid hk2
              have HR2 := Lib.hid hr2
              clear hnext hk2 hr2
              go_wp2_with fail
              go_ret
              exact ⟨⟨q, rfl, HN.out.kept HK2.out (fun j hj e => by have := HBW.out.1; omega), HR2.out⟩, HKR.out.trans HK2.out⟩

theorem read_all : ∀ f, ReadC f ∧ OperC f := by
  intro f
  induction f using Nat.strongRecOn with
  | _ f ih =>
    cases f with
    | zero =>
      constructor
      · intro k l x hx; cases hx
      · intro l x hx; cases hx
    | succ f => exact ⟨read_step f (fun g hg => (ih g (by omega)).1) (ih f (by omega)).2, operand_step f (ih f (by omega)).1⟩

end Go.Proofs.YtfgmmaahbngonaaGreatDoor

/-
  The walk of text.Digits to base ten. Conditions: the number is one of an int; the library's variables hold what they hold.
-/
namespace Go.Proofs.YtfgmmaahbngonaaGreatDoor
open Go.RowKit Go.Shelf

set_option maxHeartbeats 1600000 in
theorem digits_any (n : Int) (h0 : -9223372036854775808 ≤ n) (h1 : n ≤ 9223372036854775807) (w : World) (hg : Glo w) :
    Calls Tryz.prog 7 #[.int .i64 n, .int .i64 10] w fun e w' => e = .returned (.string ⟨(Lib.itoa n).toArray⟩) ∧ Below w.heap.size w w' := by
  have h3 : Calls Tryz.prog 11 #[.int .i64 n, .int .i64 10] w fun e w' => e = .returned (.string ⟨(Lib.itoa n).toArray⟩) ∧ Below w.heap.size w w' := by
    refine (Any.strconv_FormatInt_10 Tryz.laysM173 n h0 h1 w hg.tab).mono ?_
    rintro e w' ⟨rfl, k, os, rfl⟩
    exact ⟨rfl, below_regrown w _ os⟩
  clear h0 h1
  go_enter Tryz.func7, Tryz.ntmps7
  go_wp2_with fail
  refine h3.mono ?_
  rintro e w' ⟨rfl, hb⟩
  go_wp2_with fail
  go_ret
  exact ⟨rfl, hb⟩

end Go.Proofs.YtfgmmaahbngonaaGreatDoor

/-
  The walks of expr's signs between numbers. Conditions: numbers of 64 bits, small where the spec says so.
-/
namespace Go.Proofs.YtfgmmaahbngonaaGreatDoor
open Go.RowKit Go.Shelf Go.Maps

/-- What a sign between numbers hands back. -/
def DoVal (x : Option Int) (e : Ending) : Prop := match x with
  | some v => e = .returned (.tuple #[.int .i64 v, .bool true]) ∧ -9223372036854775808 ≤ v ∧ v ≤ 9223372036854775807
  | none => ∃ v, e = .returned (.tuple #[.int .i64 v, .bool false])
def DoC (g : Nat) (do_ : Int → Int → Option (Option Int)) : Prop := (∀ args w, (callFunc g args).run Tryz.prog w = .ok (.enter g args) w) ∧ ∀ n m x, do_ n m = some x → -9223372036854775808 ≤ n → n ≤ 9223372036854775807 → -9223372036854775808 ≤ m → m ≤ 9223372036854775807 → ∀ W, Calls Tryz.prog g #[.int .i64 n, .int .i64 m] W fun e W' => DoVal x e ∧ Below W.heap.size W W'

theorem small_both {n m : Int} {x : Option Int} {v : Option Int} (h : (if Lg.small n && Lg.small m then some v else none) = some x) : (-4611686018427387904 ≤ n ∧ n ≤ 4611686018427387903 ∧ -4611686018427387904 ≤ m ∧ m ≤ 4611686018427387903) ∧ v = x := by
  split at h
  · rename_i hs
    injection h with h
    unfold Lg.small at hs
    simp at hs
    exact ⟨by omega, h⟩
  · cases h

set_option maxRecDepth 100000 in
theorem add_c : DoC 104 Lg.addN := by
  refine ⟨fun args w => rfl, fun n m x hx _ _ _ _ W => ?_⟩
  unfold Lg.addN at hx
  obtain ⟨⟨a1, a2, a3, a4⟩, rfl⟩ := small_both hx
  have w1 : wrap64 (n + m) = n + m := by unfold wrap64; omega
  have w2 : IntKind.i64.wrap (n + m) = n + m := by rw [IntKind.wrap_i64]; omega
  have hfin : ((decide (n < n + m)) == decide (0 < m)) = true ∨ (m == 0) = true := by
    by_cases h0 : 0 < m
    · left
      rw [decide_eq_true (show n < n + m by omega), decide_eq_true h0]; rfl
    · by_cases h1 : m = 0
      · right; simp [h1]
      · left
        rw [decide_eq_false (show ¬ n < n + m by omega), decide_eq_false h0]; rfl
  have hv : DoVal (some (n + m)) (.returned (.tuple #[.int .i64 (n + m), .bool true])) := ⟨rfl, by omega, by omega⟩
  clear hx
  rcases hfin with h | h
  · go_enter Tryz.func104, Tryz.ntmps104
    go_wp2_with fail
    go_ret2
    exact ⟨hv, Below.refl _ _⟩
  · cases hd : (decide (n < n + m) == decide (0 < m)) with
    | true =>
      go_enter Tryz.func104, Tryz.ntmps104
      go_wp2_with fail
      go_ret2
      exact ⟨hv, Below.refl _ _⟩
    | false =>
      go_enter Tryz.func104, Tryz.ntmps104
      go_wp2_with fail
      go_ret2
      exact ⟨hv, Below.refl _ _⟩

set_option maxRecDepth 100000 in
theorem sub_c : DoC 105 Lg.subN := by
  refine ⟨fun args w => rfl, fun n m x hx _ _ _ _ W => ?_⟩
  unfold Lg.subN at hx
  obtain ⟨⟨a1, a2, a3, a4⟩, rfl⟩ := small_both hx
  have w1 : wrap64 (n - m) = n - m := by unfold wrap64; omega
  have w2 : IntKind.i64.wrap (n - m) = n - m := by rw [IntKind.wrap_i64]; omega
  have hfin : ((decide (n - m < n)) == decide (0 < m)) = true ∨ (m == 0) = true := by
    by_cases h0 : 0 < m
    · left
      rw [decide_eq_true (show n - m < n by omega), decide_eq_true h0]; rfl
    · by_cases h1 : m = 0
      · right; simp [h1]
      · left
        rw [decide_eq_false (show ¬ n - m < n by omega), decide_eq_false h0]; rfl
  have hv : DoVal (some (n - m)) (.returned (.tuple #[.int .i64 (n - m), .bool true])) := ⟨rfl, by omega, by omega⟩
  clear hx
  rcases hfin with h | h
  · go_enter Tryz.func105, Tryz.ntmps105
    go_wp2_with fail
    go_ret2
    exact ⟨hv, Below.refl _ _⟩
  · cases hd : (decide (n - m < n) == decide (0 < m)) with
    | true =>
      go_enter Tryz.func105, Tryz.ntmps105
      go_wp2_with fail
      go_ret2
      exact ⟨hv, Below.refl _ _⟩
    | false =>
      go_enter Tryz.func105, Tryz.ntmps105
      go_wp2_with fail
      go_ret2
      exact ⟨hv, Below.refl _ _⟩

set_option maxRecDepth 100000 in
theorem div_c : DoC 107 Lg.divN := by
  refine ⟨fun args w => rfl, fun n m x hx _ _ _ _ W => ?_⟩
  unfold Lg.divN at hx
  by_cases h0 : m = 0
  · rw [if_pos h0] at hx
    injection hx with hx
    subst hx
    subst h0
    go_enter Tryz.func107, Tryz.ntmps107
    go_wp2_with fail
    go_ret2
    exact ⟨⟨_, rfl⟩, Below.refl _ _⟩
  · rw [if_neg h0] at hx
    obtain ⟨⟨a1, a2, a3, a4⟩, rfl⟩ := small_both hx
    have e0 : (m == 0) = false := by simpa using h0
    have e1 : (n == -9223372036854775808) = false := by simp; omega
    have e2 : ¬ n = -9223372036854775808 := by omega
    have ht : (n.tdiv m).natAbs ≤ n.natAbs := by rw [Int.natAbs_tdiv]; exact Nat.div_le_self _ _
    have hv : DoVal (some (n.tdiv m)) (.returned (.tuple #[.int .i64 (n.tdiv m), .bool true])) := ⟨rfl, by omega, by omega⟩
    have w1 : wrap64 (n.tdiv m) = n.tdiv m := by unfold wrap64; omega
    have w2 : IntKind.i64.wrap (n.tdiv m) = n.tdiv m := by rw [IntKind.wrap_i64]; omega
    clear hx ht
    go_enter Tryz.func107, Tryz.ntmps107
    go_wp2_with fail
    go_ret2
    exact ⟨hv, Below.refl _ _⟩

set_option maxRecDepth 100000 in
theorem mod_c : DoC 108 Lg.modN := by
  refine ⟨fun args w => rfl, fun n m x hx _ _ _ _ W => ?_⟩
  unfold Lg.modN at hx
  by_cases h0 : m = 0
  · rw [if_pos h0] at hx
    injection hx with hx
    subst hx
    subst h0
    go_enter Tryz.func108, Tryz.ntmps108
    go_wp2_with fail
    go_ret2
    exact ⟨⟨_, rfl⟩, Below.refl _ _⟩
  · rw [if_neg h0] at hx
    obtain ⟨⟨a1, a2, a3, a4⟩, rfl⟩ := small_both hx
    have e0 : (m == 0) = false := by simpa using h0
    have ht : (n.tmod m).natAbs ≤ n.natAbs := by rw [Int.natAbs_tmod]; exact Nat.mod_le _ _
    have hv : DoVal (some (n.tmod m)) (.returned (.tuple #[.int .i64 (n.tmod m), .bool true])) := ⟨rfl, by omega, by omega⟩
    have w1 : wrap64 (n.tmod m) = n.tmod m := by unfold wrap64; omega
    have w2 : IntKind.i64.wrap (n.tmod m) = n.tmod m := by rw [IntKind.wrap_i64]; omega
    clear hx ht
    go_enter Tryz.func108, Tryz.ntmps108
    go_wp2_with fail
    go_ret2
    exact ⟨hv, Below.refl _ _⟩

set_option maxRecDepth 100000 in
theorem size_any (n : Int) (h1 : -2147483648 ≤ n) (h2 : n ≤ 2147483648) (W : World) : Calls Tryz.prog 148 #[.int .i64 n] W fun e W' => e = .returned (.int .u64 (n.natAbs : Int)) ∧ W' = W := by
  by_cases h0 : n < 0
  · have e0 : decide (n < 0) = true := by simpa using h0
    have w1 : IntKind.u64.wrap n = n + 18446744073709551616 := by rw [IntKind.wrap_u64]; omega
    have w2 : IntKind.u64.wrap (-(n + 18446744073709551616)) = (n.natAbs : Int) := by rw [IntKind.wrap_u64]; omega
    have w3 : IntKind.u64.wrap (-n) = (n.natAbs : Int) := by rw [IntKind.wrap_u64]; omega
    clear h1 h2
    go_enter Tryz.func148, Tryz.ntmps148
    go_wp2_with fail
    go_ret
    exact ⟨rfl, rfl⟩
  · have e0 : decide (n < 0) = false := by simpa using h0
    have w1 : IntKind.u64.wrap n = (n.natAbs : Int) := by rw [IntKind.wrap_u64]; omega
    clear h1 h2 h0
    go_enter Tryz.func148, Tryz.ntmps148
    go_wp2_with fail
    go_ret
    exact ⟨rfl, rfl⟩

theorem tiny_both {n m : Int} {x : Option Int} {v : Option Int} (h : (if Lg.tiny n && Lg.tiny m then some v else none) = some x) : (-2147483648 ≤ n ∧ n ≤ 2147483648 ∧ -2147483648 ≤ m ∧ m ≤ 2147483648) ∧ v = x := by
  split at h
  · rename_i hs
    injection h with h
    unfold Lg.tiny at hs
    simp at hs
    exact ⟨by omega, h⟩
  · cases h

set_option maxRecDepth 100000 in
set_option maxHeartbeats 1600000 in
theorem mul_c : DoC 106 Lg.mulN := by
  refine ⟨fun args w => rfl, fun n m x hx _ _ _ _ W => ?_⟩
  unfold Lg.mulN at hx
  obtain ⟨⟨a1, a2, a3, a4⟩, rfl⟩ := tiny_both hx
  have hs1 := fun W => size_any n a1 a2 W
  have hs2 := fun W => size_any m a3 a4 W
  have hab : n.natAbs * m.natAbs ≤ 2147483648 * 2147483648 := Nat.mul_le_mul (by omega) (by omega)
  have hnm : (n * m).natAbs = n.natAbs * m.natAbs := Int.natAbs_mul n m
  have hmul := fun W => Any.bits_Mul64 Tryz.lays264 n.natAbs m.natAbs (by omega) (by omega) W
  have hdiv : n.natAbs * m.natAbs / 18446744073709551616 = 0 := Nat.div_eq_of_lt (by omega)
  have hmod : n.natAbs * m.natAbs % 18446744073709551616 = n.natAbs * m.natAbs := Nat.mod_eq_of_lt (by omega)
  rw [hdiv, hmod] at hmul
  have hsg : (decide (n < 0) != decide (m < 0)) = true → n * m = -((n.natAbs * m.natAbs : Nat) : Int) := by
    intro h
    by_cases h1 : n < 0 <;> by_cases h2 : m < 0
    · rw [decide_eq_true h1, decide_eq_true h2] at h; cases h
    · have : n * m ≤ 0 := Int.mul_nonpos_of_nonpos_of_nonneg (by omega) (by omega)
      omega
    · have : n * m ≤ 0 := Int.mul_nonpos_of_nonneg_of_nonpos (by omega) (by omega)
      omega
    · rw [decide_eq_false h1, decide_eq_false h2] at h; cases h
  have hsg2 : (decide (n < 0) != decide (m < 0)) = false → n * m = ((n.natAbs * m.natAbs : Nat) : Int) := by
    intro h
    by_cases h1 : n < 0 <;> by_cases h2 : m < 0
    · have : 0 ≤ n * m := Int.mul_nonneg_of_nonpos_of_nonpos (by omega) (by omega)
      omega
    · rw [decide_eq_true h1, decide_eq_false h2] at h; cases h
    · rw [decide_eq_false h1, decide_eq_true h2] at h; cases h
    · have : 0 ≤ n * m := Int.mul_nonneg (by omega) (by omega)
      omega
  have hbn : ∀ a b : Bool, (a != b) = (!a == b) := by decide
  have hv : DoVal (some (n * m)) (.returned (.tuple #[.int .i64 (n * m), .bool true])) := ⟨rfl, by omega, by omega⟩
  generalize n.natAbs * m.natAbs = L at *
  have c1 : (L : Int) ≤ 9223372036854775808 := by omega
  have c2 : (L : Int) ≤ 9223372036854775807 := by omega
  have c3 : decide ((L : Int) ≤ 9223372036854775808) = true := by simp; omega
  have c4 : decide ((L : Int) ≤ 9223372036854775807) = true := by simp; omega
  cases hd : (decide (n < 0) != decide (m < 0)) with
  | true =>
    have hq := hsg hd
    have hd2 := hd
    rw [hbn] at hd2
    have w1 : IntKind.i64.wrap (IntKind.u64.wrap (-(L : Int))) = -(L : Int) := by rw [IntKind.wrap_u64, IntKind.wrap_i64]; omega
    rw [hq] at hv ⊢
    have HV := Lib.hid hv
    clear hx hab hnm hdiv hmod hsg hsg2 hv hq a1 a2 a3 a4 hbn
    go_enter Tryz.func106, Tryz.ntmps106
    go_wp2_with fail
    refine (hs1 _).mono ?_
    rintro e W1 ⟨rfl, rfl⟩
    go_wp2_with fail
    refine (hs2 _).mono ?_
    rintro e W2 ⟨rfl, rfl⟩
    go_wp2_with fail
    refine (hmul _).mono ?_
    rintro e W3 ⟨rfl, rfl⟩
    go_wp2_with fail
    go_ret2
    exact ⟨HV.out, Below.refl _ _⟩
  | false =>
    have hq := hsg2 hd
    have hd2 := hd
    rw [hbn] at hd2
    have w1 : IntKind.i64.wrap (L : Int) = (L : Int) := by rw [IntKind.wrap_i64]; omega
    rw [hq] at hv ⊢
    have HV := Lib.hid hv
    clear hx hab hnm hdiv hmod hsg hsg2 hv hq a1 a2 a3 a4 hbn
    go_enter Tryz.func106, Tryz.ntmps106
    go_wp2_with fail
    refine (hs1 _).mono ?_
    rintro e W1 ⟨rfl, rfl⟩
    go_wp2_with fail
    refine (hs2 _).mono ?_
    rintro e W2 ⟨rfl, rfl⟩
    go_wp2_with fail
    refine (hmul _).mono ?_
    rintro e W3 ⟨rfl, rfl⟩
    go_wp2_with fail
    go_ret2
    exact ⟨HV.out, Below.refl _ _⟩

end Go.Proofs.YtfgmmaahbngonaaGreatDoor
