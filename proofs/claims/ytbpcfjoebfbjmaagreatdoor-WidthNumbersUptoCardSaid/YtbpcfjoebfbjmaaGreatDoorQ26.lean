/-
  Texts of this seat put together: V24, V25, May.
-/
import Derived.Test.YtbpcfjoebfbjmaaGreatDoorQ24
import Derived.Test.YtbpcfjoebfbjmaaGreatDoorQ25
import Derived.Lib.SmallJoins
import Derived.Test.YtbpcfjoebfbjmaaGreatDoorQ6

/-
  The law's run of each of width's utilities, and the five runs of the chapter's examples. Conditions: limits that may be; what the library's variables hold.
-/
namespace Go.Proofs.YtbpcfjoebfbjmaaGreatDoor
open Go.RowKit Go.Shelf Go.Maps

/-- What the law's run of a job comes to. -/
def RunQ (args : List Bts) (inp : Bts) (r : Bts × Bool) (buf line run : Nat) : Prop := ∀ (W : World) (pa : Option Addr) (ca : Nat) (pi : Option Addr) (ci : Nat), Glo W → Ss W pa args → Bs W pi inp →
  Calls Tryz.prog 6 #[.slice pi inp.length ci, .agg #[.int .i64 buf, .int .i64 line, .int .i64 run], .slice pa args.length ca] W fun e w' => ∃ ov ev steps peak err, e = .returned (.tuple #[.agg #[ov, ev, .int .i64 (if r.2 then 0 else 1), .slice none 0 0, .int .i64 steps, .int .i64 peak, .int .i64 0], .bool true]) ∧ Sl w' (fun g => W.heap.size ≤ g) ov r.1 ∧ Sl w' (fun g => W.heap.size ≤ g) ev err ∧ Below W.heap.size W w'

theorem runQ_of (args : List Bts) (hne : args ≠ []) (hll : args.length < 1073741824) (inp : Bts) (hin : inp.length ≤ 4294967296) (buf line run : Nat) (h1 : 1 ≤ buf) (h2 : 1 ≤ line) (h3 : line ≤ run) (h4 : run ≤ 1099511627776) (h5 : buf ≤ 1099511627776) (a0 : Bts) (ha0 : a0.length ≤ 1000000) (r : Bts × Bool) (hr : r.1.length ≤ 4294967296)
    (hst : ∀ w1, Glo w1 → Starts w1 27 args buf line run inp (EndQ a0 r)) : RunQ args inp r buf line run := by
  intro W pa ca pi ci hg ha hi
  refine (lawRun_any args hne hll pa ca pi ci inp hin buf line run h1 h2 h3 h4 h5 (EndQ a0 r) W hg (fun w1 hb => hst w1 (hg.below hb)) (fun st o e h => EndQ.len ha0 hr st o e h) ha hi).mono ?_
  rintro e w' ⟨ov, ev, st, steps, peak, out, err, rfl, so, se, ⟨rfl, rfl, -⟩, hb⟩
  exact ⟨ov, ev, steps, peak, err, rfl, so, se, hb⟩

theorem runQ_fold (rest : List Bts) (hrest : rest ≠ []) (hrl : rest.length ≤ 1000) (htot : totL rest ≤ 1000000) (L : List OptA) (hp : Op.parse [98, 115, 119, 58] rest = some (L, [])) (hLN : L.length ≤ 1000000) (hLl : ∀ o ∈ L, o.2.length ≤ 1000000)
    (wd : Nat) (hwd : numOpt L 119 80 1 2147483647 = ((wd : Int), true)) (hw1 : 1 ≤ wd) (hw2 : wd ≤ 2147483647) (inp : Bts) (hin : inp.length ≤ 4294967296) (hok : ∀ c ∈ inp, Moves (Op.has L 98) c) (buf line run : Nat) (h1 : 1 ≤ buf) (h2 : 1 ≤ line) (h3 : line ≤ run) (h4 : run ≤ 1099511627776) (h5 : buf ≤ 1099511627776) (hbig : (Wi.runs (Wi.still (Wi.fold (Op.has L 115) wd)) line () inp).1.length ≤ 4294967296) :
    RunQ ([102, 111, 108, 100] :: rest) inp (Wi.runs (Wi.still (Wi.fold (Op.has L 115) wd)) line () inp) buf line run :=
  runQ_of _ (by simp) (by simp; omega) inp hin buf line run h1 h2 h3 h4 h5 [102, 111, 108, 100] (by decide) _ hbig fun w1 hg => starts_fold w1 hg rest hrest htot L hp hLN hLl wd hwd hw1 hw2 inp hok buf line run hbig
theorem runQ_expand (rest : List Bts) (hrest : rest ≠ []) (hrl : rest.length ≤ 1000) (htot : totL rest ≤ 1000000) (L : List OptA) (hp : Op.parse [116, 58] rest = some (L, [])) (hL0 : 0 < L.length) (s : Nat) (hA : AskedC L s) (hs1 : 1 ≤ s) (hs2 : s ≤ 255) (inp : Bts) (hin : inp.length ≤ 4294967296) (hok : ∀ c ∈ inp, c ≠ 8) (buf line run : Nat) (h1 : 1 ≤ buf) (h2 : 1 ≤ line) (h3 : line ≤ run) (h4 : run ≤ 1099511627776) (h5 : buf ≤ 1099511627776) (hbig : (Wi.runs (Wi.still (Wi.expand s)) line () inp).1.length ≤ 4294967296) :
    RunQ ([101, 120, 112, 97, 110, 100] :: rest) inp (Wi.runs (Wi.still (Wi.expand s)) line () inp) buf line run :=
  runQ_of _ (by simp) (by simp; omega) inp hin buf line run h1 h2 h3 h4 h5 [101, 120, 112, 97, 110, 100] (by decide) _ hbig fun w1 hg => starts_expand w1 hg rest hrest htot L hp hL0 s hA hs1 hs2 inp hok buf line run hbig
theorem runQ_unexpand (rest : List Bts) (hrest : rest ≠ []) (hrl : rest.length ≤ 1000) (htot : totL rest ≤ 1000000) (L : List OptA) (hp : Op.parse [97, 116, 58] rest = some (L, [])) (hL0 : 0 < L.length) (s : Nat) (hA : AskedC L s) (hs1 : 1 ≤ s) (hs2 : s ≤ 255) (inp : Bts) (hin : inp.length ≤ 4294967296) (hok : ∀ c ∈ inp, c ≠ 8) (buf line run : Nat) (h1 : 1 ≤ buf) (h2 : 1 ≤ line) (h3 : line ≤ run) (h4 : run ≤ 1099511627776) (h5 : buf ≤ 1099511627776) (hbig : (Wi.runs (Wi.still (Wi.unexpand s)) line () inp).1.length ≤ 4294967296) :
    RunQ ([117, 110, 101, 120, 112, 97, 110, 100] :: rest) inp (Wi.runs (Wi.still (Wi.unexpand s)) line () inp) buf line run :=
  runQ_of _ (by simp) (by simp; omega) inp hin buf line run h1 h2 h3 h4 h5 [117, 110, 101, 120, 112, 97, 110, 100] (by decide) _ hbig fun w1 hg => starts_unexpand w1 hg rest hrest htot L hp hL0 s hA hs1 hs2 inp hok buf line run hbig
theorem runQ_nl (rest : List Bts) (hrest : rest ≠ []) (hrl : rest.length ≤ 1000) (htot : totL rest ≤ 1000000) (L : List OptA) (hp : Op.parse [98, 58, 118, 58, 105, 58, 119, 58, 115, 58, 110, 58] rest = some (L, [])) (hLN : L.length ≤ 1000000) (hLl : ∀ o ∈ L, o.2.length ≤ 1000000)
    (t : Bool) (sep : Bts) (wd : Nat) (v by_ : Int) (ho : NlOpts L t sep wd v by_) (inp : Bts) (hin : inp.length ≤ 4294967296) (buf line run : Nat) (h1 : 1 ≤ buf) (h2 : 1 ≤ line) (h3 : line ≤ run) (h4 : run ≤ 1099511627776) (h5 : buf ≤ 1099511627776) (hbig : (Wi.runs (nlLine t (!t) sep wd by_) line v inp).1.length ≤ 4294967296) :
    RunQ ([110, 108] :: rest) inp (Wi.runs (nlLine t (!t) sep wd by_) line v inp) buf line run :=
  runQ_of _ (by simp) (by simp; omega) inp hin buf line run h1 h2 h3 h4 h5 [110, 108] (by decide) _ hbig fun w1 hg => starts_nl w1 hg rest hrest htot L hp hLN hLl t sep wd v by_ ho inp buf line run hbig

/-! The five examples. -/
theorem ex_a : RunQ [[102, 111, 108, 100], [45, 119], [51]] [97, 98, 99, 100, 101] ([97, 98, 99, 10, 100, 101], true) 3 9 9 := by
  have hr : Wi.runs (Wi.still (Wi.fold (Op.has [(119, [51])] 115) 3)) 9 () [97, 98, 99, 100, 101] = ([97, 98, 99, 10, 100, 101], true) := by decide
  rw [← hr]
  exact runQ_fold [[45, 119], [51]] (by simp) (by decide) (by decide) [(119, [51])] (by decide) (by decide) (by decide) 3 (by decide) (by decide) (by decide) _ (by decide) (by intro c hc; right; revert c; decide) 3 9 9 (by decide) (by decide) (by decide) (by decide) (by decide) (by rw [hr]; decide)
theorem ex_b : RunQ [[102, 111, 108, 100], [45, 115, 119, 52]] [97, 32, 98, 99, 100] ([97, 32, 10, 98, 99, 100], true) 3 9 9 := by
  have hr : Wi.runs (Wi.still (Wi.fold (Op.has [(115, []), (119, [52])] 115) 4)) 9 () [97, 32, 98, 99, 100] = ([97, 32, 10, 98, 99, 100], true) := by decide
  rw [← hr]
  exact runQ_fold [[45, 115, 119, 52]] (by simp) (by decide) (by decide) [(115, []), (119, [52])] (by decide) (by decide) (by decide) 4 (by decide) (by decide) (by decide) _ (by decide) (by intro c hc; right; revert c; decide) 3 9 9 (by decide) (by decide) (by decide) (by decide) (by decide) (by rw [hr]; decide)
theorem ex_c : RunQ [[101, 120, 112, 97, 110, 100], [45, 116], [52]] [97, 9, 98] ([97, 32, 32, 32, 98], true) 3 9 9 := by
  have hr : Wi.runs (Wi.still (Wi.expand 4)) 9 () [97, 9, 98] = ([97, 32, 32, 32, 98], true) := by decide
  rw [← hr]
  exact runQ_expand [[45, 116], [52]] (by simp) (by decide) (by decide) [(116, [52])] (by decide) (by decide) 4 (asked_any _ [52] 4 (by decide) (by decide) (by decide) (by decide) (by decide) (by decide)) (by decide) (by decide) _ (by decide) (by decide) 3 9 9 (by decide) (by decide) (by decide) (by decide) (by decide) (by rw [hr]; decide)
theorem ex_d : RunQ [[117, 110, 101, 120, 112, 97, 110, 100], [45, 97], [45, 116], [52]] [97, 32, 32, 32, 98] ([97, 9, 98], true) 3 9 9 := by
  have hr : Wi.runs (Wi.still (Wi.unexpand 4)) 9 () [97, 32, 32, 32, 98] = ([97, 9, 98], true) := by decide
  rw [← hr]
  exact runQ_unexpand [[45, 97], [45, 116], [52]] (by simp) (by decide) (by decide) [(97, []), (116, [52])] (by decide) (by decide) 4 (asked_any _ [52] 4 (by decide) (by decide) (by decide) (by decide) (by decide) (by decide)) (by decide) (by decide) _ (by decide) (by decide) 3 9 9 (by decide) (by decide) (by decide) (by decide) (by decide) (by rw [hr]; decide)
theorem ex_e : RunQ [[110, 108], [45, 119], [50], [45, 115], [58]] [120, 10, 10, 121, 10] ([32, 49, 58, 120, 10, 32, 32, 32, 10, 32, 50, 58, 121, 10], true) 3 9 9 := by
  have hr : Wi.runs (nlLine true (!true) [58] 2 1) 9 1 [120, 10, 10, 121, 10] = ([32, 49, 58, 120, 10, 32, 32, 32, 10, 32, 50, 58, 121, 10], true) := by decide +kernel
  rw [← hr]
  exact runQ_nl [[45, 119], [50], [45, 115], [58]] (by simp) (by decide) (by decide) [(119, [50]), (115, [58])] (by decide) (by decide) (by decide) true [58] 2 1 1 ⟨by decide, by decide, by decide, by decide, by decide, by decide, by decide, by decide⟩ _ (by decide) 3 9 9 (by decide) (by decide) (by decide) (by decide) (by decide) (by rw [hr]; decide)

end Go.Proofs.YtbpcfjoebfbjmaaGreatDoor

/-
  The walk of the law's awake: the chapter's examples. Condition: what the library's variables hold.
-/
namespace Go.Proofs.YtbpcfjoebfbjmaaGreatDoor
open Go.RowKit Go.Shelf Go.Maps

theorem ss_lit {W : World} {b : Nat} {l : List Bts} {t : TypeId} (h : Blk W b (l.map strV).toArray t) : Ss W (some ⟨b, 0, none⟩) l := fun _ => ⟨b, 0, rfl, fun i hi => by
  rw [Nat.zero_add]
  refine h.cell i ?_
  rw [List.getElem?_toArray, List.getElem?_map, List.getElem?_eq_getElem hi, List.getD_eq_getElem?_getD, List.getElem?_eq_getElem hi]
  rfl⟩
theorem bs_lit {W : World} {b : Nat} {l : Bts} {t : TypeId} {f : Nat × Nat} (h : W.heap[b]? = some (.cells (l.map u8V).toArray t f)) : Bs W (some ⟨b, 0, none⟩) l := fun _ => ⟨b, 0, rfl, fun i hi => by
  rw [Nat.zero_add, Lib.cell_of_heap h, List.getElem?_toArray, List.getElem?_map, List.getElem?_eq_getElem hi, List.getD_eq_getElem?_getD, List.getElem?_eq_getElem hi]
  rfl⟩
theorem RunQ.ok {args : List Bts} {inp out : Bts} {buf line run : Nat} (h : RunQ args inp (out, true) buf line run) (W : World) (pa : Option Addr) (ca : Nat) (pi : Option Addr) (ci : Nat) (hg : Glo W) (ha : Ss W pa args) (hi : Bs W pi inp) :
    Calls Tryz.prog 6 #[.slice pi inp.length ci, .agg #[.int .i64 buf, .int .i64 line, .int .i64 run], .slice pa args.length ca] W fun e w' => ∃ ov ev steps peak err, e = .returned (.tuple #[.agg #[ov, ev, .int .i64 0, .slice none 0 0, .int .i64 steps, .int .i64 peak, .int .i64 0], .bool true]) ∧ Sl w' (fun g => W.heap.size ≤ g) ov out ∧ Sl w' (fun g => W.heap.size ≤ g) ev err ∧ Below W.heap.size W w' := h W pa ca pi ci hg ha hi
/-- A job's bytes and words, laid ahead of its run. -/
theorem lay_job (W : World) (inp : Bts) (args : List Bts) : Below W.heap.size W ((W.alloc (.cells (inp.map u8V).toArray 5 ((inp.map u8V).toArray.size, (inp.map u8V).toArray.size + 1))).alloc (.cells (args.map strV).toArray 9)) ∧
    Ss ((W.alloc (.cells (inp.map u8V).toArray 5 ((inp.map u8V).toArray.size, (inp.map u8V).toArray.size + 1))).alloc (.cells (args.map strV).toArray 9)) (some ⟨W.heap.size + 1, 0, none⟩) args ∧
    Bs ((W.alloc (.cells (inp.map u8V).toArray 5 ((inp.map u8V).toArray.size, (inp.map u8V).toArray.size + 1))).alloc (.cells (args.map strV).toArray 9)) (some ⟨W.heap.size, 0, none⟩) inp := by
  refine ⟨((Below.refl _ _).alloc (Nat.le_refl _) _).alloc (by simp) _, ss_lit (t := 9) ?_, bs_lit (t := 5) ((Below.heap_alloc _ _ _ (by simp)).trans (heap_alloc_new W _))⟩
  have := Blk.new (W.alloc (.cells (inp.map u8V).toArray 5 ((inp.map u8V).toArray.size, (inp.map u8V).toArray.size + 1))) (args.map strV).toArray 9
  simpa only [World.size_alloc] using this

set_option maxRecDepth 100000 in
set_option maxHeartbeats 8000000 in
theorem awake_any (w : World) (hg : Glo w) : Calls Tryz.prog 4 #[] w fun e w' => e = .returned (.bool true) ∧ Below w.heap.size w w' := by
  obtain ⟨w0, hw0⟩ : ∃ w0, w.alloc (.cells #[.int .i64 3, .int .i64 9, .int .i64 9] 24) = w0 := ⟨_, rfl⟩
  have hb0 : Below w.heap.size w w0 := by rw [← hw0]; exact (Below.refl _ _).alloc (Nat.le_refl _) _
  have hk0 : Blk w0 w.heap.size #[.int .i64 3, .int .i64 9, .int .i64 9] 24 := by rw [← hw0]; exact Blk.new _ _ _
  have hs0 : w0.heap.size = w.heap.size + 1 := by rw [← hw0]; simp
  have HW0 := Lib.hid hw0
  have HLIM := Lib.hid hk0
  have HG := Lib.hid hg
  have HB0 := Lib.hid hb0
  have HS0 := Lib.hid hs0
  clear hw0 hk0 hb0 hs0 hg
  have hj0 := lay_job w0 [97, 98, 99, 100, 101] [[102, 111, 108, 100], [45, 119], [51]]
  obtain ⟨x0, hx0⟩ : ∃ x, (w0.alloc (.cells #[.int .u8 97, .int .u8 98, .int .u8 99, .int .u8 100, .int .u8 101] 5 (5, 6))).alloc (.cells #[.string ⟨#[102, 111, 108, 100]⟩, .string ⟨#[45, 119]⟩, .string ⟨#[51]⟩] 9) = x := ⟨_, rfl⟩
  have hj0' : Below w0.heap.size w0 x0 ∧ Ss x0 (some ⟨w0.heap.size + 1, 0, none⟩) [[102, 111, 108, 100], [45, 119], [51]] ∧ Bs x0 (some ⟨w0.heap.size, 0, none⟩) [97, 98, 99, 100, 101] := by rw [← hx0]; exact hj0
  have hrun0 := RunQ.ok ex_a x0 _ 3 _ 5 ((HG.out.below HB0.out).below hj0'.1) hj0'.2.1 hj0'.2.2
  have HX0 := Lib.hid hx0
  have HJ0 := Lib.hid hj0'.1
  clear hj0 hx0 hj0'
  have HR0 := Lib.hid hrun0
  clear hrun0
  have hcv0 := Joins.run_convert_bytes_const_at (P := Tryz.prog) w0 22 5 #[.int .u8 97, .int .u8 98, .int .u8 99, .int .u8 100, .int .u8 101] 5 5 w0.heap.size rfl Tryz.underlying22 Tryz.underlying5
  go_enter Tryz.func4, Tryz.ntmps4
  go_upto_region 2 with fail
  rw [HW0.out]
  have a00 := new_cell ((HLIM.out.keep (Below.refl _ w0) HLIM.out.lt).cell 0 (v := .int .i64 3) rfl)
  have a01 := new_cell ((HLIM.out.keep (Below.refl _ w0) HLIM.out.lt).cell 1 (v := .int .i64 9) rfl)
  have a02 := new_cell ((HLIM.out.keep (Below.refl _ w0) HLIM.out.lt).cell 2 (v := .int .i64 9) rfl)
  go_wp2_with fail
  rw [HX0.out]
  refine HR0.out.mono ?_
  rintro e v0 ⟨ov0, ev0, st0, pk0, er0, rfl, so0, se0, hb0⟩
  obtain ⟨p0, c0, ho0, hbs0⟩ := so0.bs
  obtain ⟨q0, d0, he0, -⟩ := se0.bs
  replace ho0 : ov0 = .slice p0 6 c0 := ho0
  subst ho0
  subst he0
  obtain ⟨w1, hw1⟩ : ∃ w', v0.alloc (.cells #[.slice p0 6 c0, .slice q0 er0.length d0, .int .i64 0, .slice none 0 0, .int .i64 st0, .int .i64 pk0, .int .i64 0] 34) = w' := ⟨_, rfl⟩
  have hbl1 : Below w0.heap.size w0 w1 := by
    rw [← hw1]
    have h1 := HJ0.out
    have h2 := h1.trans (hb0.mono h1.size)
    exact h2.alloc h2.size _
  have HRES0 : Hid (Blk w1 v0.heap.size #[.slice p0 6 c0, .slice q0 er0.length d0, .int .i64 0, .slice none 0 0, .int .i64 st0, .int .i64 pk0, .int .i64 0] 34) := Lib.hid (by rw [← hw1]; exact Blk.new _ _ _)
  have HBS0 : Hid (Bs w1 (some ⟨0, 0, none⟩) [] ∧ Bs w1 p0 [97, 98, 99, 10, 100, 101]) := Lib.hid ⟨Bs.nil _ _, by rw [← hw1]; exact hbs0.1.below ((Below.refl _ _).alloc (Nat.le_refl _) _) (Nat.le_refl _)⟩
  have HBL1 := Lib.hid hbl1

  have HB1 := Lib.hid (HB0.out.trans (hbl1.mono HB0.out.size))
  have HW1 := Lib.hid hw1
  have HVL0 : Hid (v0.heap.size < w1.heap.size) := Lib.hid (by rw [← hw1]; simp)
  clear so0 se0 hbs0 hw1 hbl1 hb0 hcv0 a00 a01 a02
  go_upto_region 3 with fail
  rw [HW1.out]
  have hj1 := lay_job w1 [97, 32, 98, 99, 100] [[102, 111, 108, 100], [45, 115, 119, 52]]
  obtain ⟨x1, hx1⟩ : ∃ x, (w1.alloc (.cells #[.int .u8 97, .int .u8 32, .int .u8 98, .int .u8 99, .int .u8 100] 5 (5, 6))).alloc (.cells #[.string ⟨#[102, 111, 108, 100]⟩, .string ⟨#[45, 115, 119, 52]⟩] 9) = x := ⟨_, rfl⟩
  have hj1' : Below w1.heap.size w1 x1 ∧ Ss x1 (some ⟨w1.heap.size + 1, 0, none⟩) [[102, 111, 108, 100], [45, 115, 119, 52]] ∧ Bs x1 (some ⟨w1.heap.size, 0, none⟩) [97, 32, 98, 99, 100] := by rw [← hx1]; exact hj1
  have hrun1 := RunQ.ok ex_b x1 _ 2 _ 5 ((HG.out.below HB1.out).below hj1'.1) hj1'.2.1 hj1'.2.2
  have HX1 := Lib.hid hx1
  have HJ1 := Lib.hid hj1'.1
  clear hj1 hx1 hj1'
  have HR1 := Lib.hid hrun1
  clear hrun1
  have hcv1 := Joins.run_convert_bytes_const_at (P := Tryz.prog) w1 22 5 #[.int .u8 97, .int .u8 32, .int .u8 98, .int .u8 99, .int .u8 100] 5 5 w1.heap.size rfl Tryz.underlying22 Tryz.underlying5
  have a10 := new_cell ((HLIM.out.keep HBL1.out HLIM.out.lt).cell 0 (v := .int .i64 3) rfl)
  have a11 := new_cell ((HLIM.out.keep HBL1.out HLIM.out.lt).cell 1 (v := .int .i64 9) rfl)
  have a12 := new_cell ((HLIM.out.keep HBL1.out HLIM.out.lt).cell 2 (v := .int .i64 9) rfl)
  go_wp2_with fail
  rw [HX1.out]
  refine HR1.out.mono ?_
  rintro e v1 ⟨ov1, ev1, st1, pk1, er1, rfl, so1, se1, hb1⟩
  obtain ⟨p1, c1, ho1, hbs1⟩ := so1.bs
  obtain ⟨q1, d1, he1, -⟩ := se1.bs
  replace ho1 : ov1 = .slice p1 6 c1 := ho1
  subst ho1
  subst he1
  obtain ⟨w2, hw2⟩ : ∃ w', v1.alloc (.cells #[.slice p1 6 c1, .slice q1 er1.length d1, .int .i64 0, .slice none 0 0, .int .i64 st1, .int .i64 pk1, .int .i64 0] 34) = w' := ⟨_, rfl⟩
  have hbl2 : Below w0.heap.size w0 w2 := by
    rw [← hw2]
    have h1 := HBL1.out.trans (HJ1.out.mono HBL1.out.size)
    have h2 := h1.trans (hb1.mono h1.size)
    exact h2.alloc h2.size _
  have HRES1 : Hid (Blk w2 v1.heap.size #[.slice p1 6 c1, .slice q1 er1.length d1, .int .i64 0, .slice none 0 0, .int .i64 st1, .int .i64 pk1, .int .i64 0] 34) := Lib.hid (by rw [← hw2]; exact Blk.new _ _ _)
  have HBS1 : Hid (Bs w2 (some ⟨0, 0, none⟩) [] ∧ Bs w2 p1 [97, 32, 10, 98, 99, 100]) := Lib.hid ⟨Bs.nil _ _, by rw [← hw2]; exact hbs1.1.below ((Below.refl _ _).alloc (Nat.le_refl _) _) (Nat.le_refl _)⟩
  have HBL2 := Lib.hid hbl2
  have HBY0 := Lib.hid ((HJ1.out.trans (hb1.mono HJ1.out.size)).trans ((by rw [← hw2]; exact (Below.refl _ _).alloc (Nat.le_refl _) _ : Below v1.heap.size v1 w2).mono (HJ1.out.trans (hb1.mono HJ1.out.size)).size))
  have HB2 := Lib.hid (HB0.out.trans (hbl2.mono HB0.out.size))
  have HW2 := Lib.hid hw2
  have HVL1 : Hid (v1.heap.size < w2.heap.size) := Lib.hid (by rw [← hw2]; simp)
  clear so1 se1 hbs1 hw2 hbl2 hb1 hcv1 a10 a11 a12
  go_upto_region 4 with fail
  rw [HW2.out]
  have hj2 := lay_job w2 [97, 9, 98] [[101, 120, 112, 97, 110, 100], [45, 116], [52]]
  obtain ⟨x2, hx2⟩ : ∃ x, (w2.alloc (.cells #[.int .u8 97, .int .u8 9, .int .u8 98] 5 (3, 4))).alloc (.cells #[.string ⟨#[101, 120, 112, 97, 110, 100]⟩, .string ⟨#[45, 116]⟩, .string ⟨#[52]⟩] 9) = x := ⟨_, rfl⟩
  have hj2' : Below w2.heap.size w2 x2 ∧ Ss x2 (some ⟨w2.heap.size + 1, 0, none⟩) [[101, 120, 112, 97, 110, 100], [45, 116], [52]] ∧ Bs x2 (some ⟨w2.heap.size, 0, none⟩) [97, 9, 98] := by rw [← hx2]; exact hj2
  have hrun2 := RunQ.ok ex_c x2 _ 3 _ 3 ((HG.out.below HB2.out).below hj2'.1) hj2'.2.1 hj2'.2.2
  have HX2 := Lib.hid hx2
  have HJ2 := Lib.hid hj2'.1
  clear hj2 hx2 hj2'
  have HR2 := Lib.hid hrun2
  clear hrun2
  have hcv2 := Joins.run_convert_bytes_const_at (P := Tryz.prog) w2 22 5 #[.int .u8 97, .int .u8 9, .int .u8 98] 3 3 w2.heap.size rfl Tryz.underlying22 Tryz.underlying5
  have a20 := new_cell ((HLIM.out.keep HBL2.out HLIM.out.lt).cell 0 (v := .int .i64 3) rfl)
  have a21 := new_cell ((HLIM.out.keep HBL2.out HLIM.out.lt).cell 1 (v := .int .i64 9) rfl)
  have a22 := new_cell ((HLIM.out.keep HBL2.out HLIM.out.lt).cell 2 (v := .int .i64 9) rfl)
  go_wp2_with fail
  rw [HX2.out]
  refine HR2.out.mono ?_
  rintro e v2 ⟨ov2, ev2, st2, pk2, er2, rfl, so2, se2, hb2⟩
  obtain ⟨p2, c2, ho2, hbs2⟩ := so2.bs
  obtain ⟨q2, d2, he2, -⟩ := se2.bs
  replace ho2 : ov2 = .slice p2 5 c2 := ho2
  subst ho2
  subst he2
  obtain ⟨w3, hw3⟩ : ∃ w', v2.alloc (.cells #[.slice p2 5 c2, .slice q2 er2.length d2, .int .i64 0, .slice none 0 0, .int .i64 st2, .int .i64 pk2, .int .i64 0] 34) = w' := ⟨_, rfl⟩
  have hbl3 : Below w0.heap.size w0 w3 := by
    rw [← hw3]
    have h1 := HBL2.out.trans (HJ2.out.mono HBL2.out.size)
    have h2 := h1.trans (hb2.mono h1.size)
    exact h2.alloc h2.size _
  have HRES2 : Hid (Blk w3 v2.heap.size #[.slice p2 5 c2, .slice q2 er2.length d2, .int .i64 0, .slice none 0 0, .int .i64 st2, .int .i64 pk2, .int .i64 0] 34) := Lib.hid (by rw [← hw3]; exact Blk.new _ _ _)
  have HBS2 : Hid (Bs w3 (some ⟨0, 0, none⟩) [] ∧ Bs w3 p2 [97, 32, 32, 32, 98]) := Lib.hid ⟨Bs.nil _ _, by rw [← hw3]; exact hbs2.1.below ((Below.refl _ _).alloc (Nat.le_refl _) _) (Nat.le_refl _)⟩
  have HBL3 := Lib.hid hbl3
  have HBY1 := Lib.hid ((HJ2.out.trans (hb2.mono HJ2.out.size)).trans ((by rw [← hw3]; exact (Below.refl _ _).alloc (Nat.le_refl _) _ : Below v2.heap.size v2 w3).mono (HJ2.out.trans (hb2.mono HJ2.out.size)).size))
  have HBY0 := Lib.hid (HBY0.out.trans (HBY1.out.mono HBY0.out.size))
  have HB3 := Lib.hid (HB0.out.trans (hbl3.mono HB0.out.size))
  have HW3 := Lib.hid hw3
  have HVL2 : Hid (v2.heap.size < w3.heap.size) := Lib.hid (by rw [← hw3]; simp)
  clear so2 se2 hbs2 hw3 hbl3 hb2 hcv2 a20 a21 a22
  go_upto_region 5 with fail
  rw [HW3.out]
  have hj3 := lay_job w3 [97, 32, 32, 32, 98] [[117, 110, 101, 120, 112, 97, 110, 100], [45, 97], [45, 116], [52]]
  obtain ⟨x3, hx3⟩ : ∃ x, (w3.alloc (.cells #[.int .u8 97, .int .u8 32, .int .u8 32, .int .u8 32, .int .u8 98] 5 (5, 6))).alloc (.cells #[.string ⟨#[117, 110, 101, 120, 112, 97, 110, 100]⟩, .string ⟨#[45, 97]⟩, .string ⟨#[45, 116]⟩, .string ⟨#[52]⟩] 9) = x := ⟨_, rfl⟩
  have hj3' : Below w3.heap.size w3 x3 ∧ Ss x3 (some ⟨w3.heap.size + 1, 0, none⟩) [[117, 110, 101, 120, 112, 97, 110, 100], [45, 97], [45, 116], [52]] ∧ Bs x3 (some ⟨w3.heap.size, 0, none⟩) [97, 32, 32, 32, 98] := by rw [← hx3]; exact hj3
  have hrun3 := RunQ.ok ex_d x3 _ 4 _ 5 ((HG.out.below HB3.out).below hj3'.1) hj3'.2.1 hj3'.2.2
  have HX3 := Lib.hid hx3
  have HJ3 := Lib.hid hj3'.1
  clear hj3 hx3 hj3'
  have HR3 := Lib.hid hrun3
  clear hrun3
  have hcv3 := Joins.run_convert_bytes_const_at (P := Tryz.prog) w3 22 5 #[.int .u8 97, .int .u8 32, .int .u8 32, .int .u8 32, .int .u8 98] 5 5 w3.heap.size rfl Tryz.underlying22 Tryz.underlying5
  have a30 := new_cell ((HLIM.out.keep HBL3.out HLIM.out.lt).cell 0 (v := .int .i64 3) rfl)
  have a31 := new_cell ((HLIM.out.keep HBL3.out HLIM.out.lt).cell 1 (v := .int .i64 9) rfl)
  have a32 := new_cell ((HLIM.out.keep HBL3.out HLIM.out.lt).cell 2 (v := .int .i64 9) rfl)
  go_wp2_with fail
  rw [HX3.out]
  refine HR3.out.mono ?_
  rintro e v3 ⟨ov3, ev3, st3, pk3, er3, rfl, so3, se3, hb3⟩
  obtain ⟨p3, c3, ho3, hbs3⟩ := so3.bs
  obtain ⟨q3, d3, he3, -⟩ := se3.bs
  replace ho3 : ov3 = .slice p3 3 c3 := ho3
  subst ho3
  subst he3
  obtain ⟨w4, hw4⟩ : ∃ w', v3.alloc (.cells #[.slice p3 3 c3, .slice q3 er3.length d3, .int .i64 0, .slice none 0 0, .int .i64 st3, .int .i64 pk3, .int .i64 0] 34) = w' := ⟨_, rfl⟩
  have hbl4 : Below w0.heap.size w0 w4 := by
    rw [← hw4]
    have h1 := HBL3.out.trans (HJ3.out.mono HBL3.out.size)
    have h2 := h1.trans (hb3.mono h1.size)
    exact h2.alloc h2.size _
  have HRES3 : Hid (Blk w4 v3.heap.size #[.slice p3 3 c3, .slice q3 er3.length d3, .int .i64 0, .slice none 0 0, .int .i64 st3, .int .i64 pk3, .int .i64 0] 34) := Lib.hid (by rw [← hw4]; exact Blk.new _ _ _)
  have HBS3 : Hid (Bs w4 (some ⟨0, 0, none⟩) [] ∧ Bs w4 p3 [97, 9, 98]) := Lib.hid ⟨Bs.nil _ _, by rw [← hw4]; exact hbs3.1.below ((Below.refl _ _).alloc (Nat.le_refl _) _) (Nat.le_refl _)⟩
  have HBL4 := Lib.hid hbl4
  have HBY2 := Lib.hid ((HJ3.out.trans (hb3.mono HJ3.out.size)).trans ((by rw [← hw4]; exact (Below.refl _ _).alloc (Nat.le_refl _) _ : Below v3.heap.size v3 w4).mono (HJ3.out.trans (hb3.mono HJ3.out.size)).size))
  have HBY1 := Lib.hid (HBY1.out.trans (HBY2.out.mono HBY1.out.size))
  have HBY0 := Lib.hid (HBY0.out.trans (HBY2.out.mono HBY0.out.size))
  have HB4 := Lib.hid (HB0.out.trans (hbl4.mono HB0.out.size))
  have HW4 := Lib.hid hw4
  have HVL3 : Hid (v3.heap.size < w4.heap.size) := Lib.hid (by rw [← hw4]; simp)
  clear so3 se3 hbs3 hw4 hbl4 hb3 hcv3 a30 a31 a32
  go_upto_region 6 with fail
  rw [HW4.out]
  have hj4 := lay_job w4 [120, 10, 10, 121, 10] [[110, 108], [45, 119], [50], [45, 115], [58]]
  obtain ⟨x4, hx4⟩ : ∃ x, (w4.alloc (.cells #[.int .u8 120, .int .u8 10, .int .u8 10, .int .u8 121, .int .u8 10] 5 (5, 6))).alloc (.cells #[.string ⟨#[110, 108]⟩, .string ⟨#[45, 119]⟩, .string ⟨#[50]⟩, .string ⟨#[45, 115]⟩, .string ⟨#[58]⟩] 9) = x := ⟨_, rfl⟩
  have hj4' : Below w4.heap.size w4 x4 ∧ Ss x4 (some ⟨w4.heap.size + 1, 0, none⟩) [[110, 108], [45, 119], [50], [45, 115], [58]] ∧ Bs x4 (some ⟨w4.heap.size, 0, none⟩) [120, 10, 10, 121, 10] := by rw [← hx4]; exact hj4
  have hrun4 := RunQ.ok ex_e x4 _ 5 _ 5 ((HG.out.below HB4.out).below hj4'.1) hj4'.2.1 hj4'.2.2
  have HX4 := Lib.hid hx4
  have HJ4 := Lib.hid hj4'.1
  clear hj4 hx4 hj4'
  have HR4 := Lib.hid hrun4
  clear hrun4
  have hcv4 := Joins.run_convert_bytes_const_at (P := Tryz.prog) w4 22 5 #[.int .u8 120, .int .u8 10, .int .u8 10, .int .u8 121, .int .u8 10] 5 5 w4.heap.size rfl Tryz.underlying22 Tryz.underlying5
  have a40 := new_cell ((HLIM.out.keep HBL4.out HLIM.out.lt).cell 0 (v := .int .i64 3) rfl)
  have a41 := new_cell ((HLIM.out.keep HBL4.out HLIM.out.lt).cell 1 (v := .int .i64 9) rfl)
  have a42 := new_cell ((HLIM.out.keep HBL4.out HLIM.out.lt).cell 2 (v := .int .i64 9) rfl)
  go_wp2_with fail
  rw [HX4.out]
  refine HR4.out.mono ?_
  rintro e v4 ⟨ov4, ev4, st4, pk4, er4, rfl, so4, se4, hb4⟩
  obtain ⟨p4, c4, ho4, hbs4⟩ := so4.bs
  obtain ⟨q4, d4, he4, -⟩ := se4.bs
  replace ho4 : ov4 = .slice p4 14 c4 := ho4
  subst ho4
  subst he4
  obtain ⟨w5, hw5⟩ : ∃ w', v4.alloc (.cells #[.slice p4 14 c4, .slice q4 er4.length d4, .int .i64 0, .slice none 0 0, .int .i64 st4, .int .i64 pk4, .int .i64 0] 34) = w' := ⟨_, rfl⟩
  have hbl5 : Below w0.heap.size w0 w5 := by
    rw [← hw5]
    have h1 := HBL4.out.trans (HJ4.out.mono HBL4.out.size)
    have h2 := h1.trans (hb4.mono h1.size)
    exact h2.alloc h2.size _
  have HRES4 : Hid (Blk w5 v4.heap.size #[.slice p4 14 c4, .slice q4 er4.length d4, .int .i64 0, .slice none 0 0, .int .i64 st4, .int .i64 pk4, .int .i64 0] 34) := Lib.hid (by rw [← hw5]; exact Blk.new _ _ _)
  have HBS4 : Hid (Bs w5 (some ⟨0, 0, none⟩) [] ∧ Bs w5 p4 [32, 49, 58, 120, 10, 32, 32, 32, 10, 32, 50, 58, 121, 10]) := Lib.hid ⟨Bs.nil _ _, by rw [← hw5]; exact hbs4.1.below ((Below.refl _ _).alloc (Nat.le_refl _) _) (Nat.le_refl _)⟩
  have HBL5 := Lib.hid hbl5
  have HBY3 := Lib.hid ((HJ4.out.trans (hb4.mono HJ4.out.size)).trans ((by rw [← hw5]; exact (Below.refl _ _).alloc (Nat.le_refl _) _ : Below v4.heap.size v4 w5).mono (HJ4.out.trans (hb4.mono HJ4.out.size)).size))
  have HBY2 := Lib.hid (HBY2.out.trans (HBY3.out.mono HBY2.out.size))
  have HBY1 := Lib.hid (HBY1.out.trans (HBY3.out.mono HBY1.out.size))
  have HBY0 := Lib.hid (HBY0.out.trans (HBY3.out.mono HBY0.out.size))
  have HB5 := Lib.hid (HB0.out.trans (hbl5.mono HB0.out.size))
  have HW5 := Lib.hid hw5
  have HVL4 : Hid (v4.heap.size < w5.heap.size) := Lib.hid (by rw [← hw5]; simp)
  clear so4 se4 hbs4 hw5 hbl5 hb4 hcv4 a40 a41 a42
  go_upto_region 7 with fail
  rw [HW5.out]
  have hnx := next_any [4] (some ⟨w5.heap.size, 0, none⟩) 1 (by decide) (by decide) (by decide) 4 (by decide) (by decide) (w5.alloc (.cells #[.int .i64 4] 3)) (fun _ => ⟨w5.heap.size, 0, rfl, by simp, fun i hi => by
    obtain rfl : i = 0 := by simpa using hi
    exact (Blk.new w5 _ _).cell 0 rfl⟩)
  have hnv : nextV (nextL [4] 4) = .tuple #[.int .i64 8, .bool true] := by simp [nextL, nextV, wrap64]
  rw [hnv] at hnx
  clear hnv
  go_wp2_with fail
  refine hnx.mono ?_
  rintro e w6 ⟨rfl, hw6⟩
  clear hnx
  have hb6 : Below w5.heap.size w5 w6 := by rw [hw6]; exact (Below.refl _ _).alloc (Nat.le_refl _) _
  clear hw6
  have hbx0 : Below w1.heap.size w1 w6 := HBY0.out.trans (hb6.mono HBY0.out.size)
  have r0 := (HRES0.out.keep hbx0 HRES0.out.lt).cell 0 (v := .slice p0 6 c0) rfl
  have s0 : (convert 22 9 (.slice p0 6 c0)).run Tryz.prog w6 = .ok (.string ⟨#[97, 98, 99, 10, 100, 101]⟩) w6 := run_str (HBS0.out.2.below hbx0 (Nat.le_refl _)) c0
  have hbx1 : Below w2.heap.size w2 w6 := HBY1.out.trans (hb6.mono HBY1.out.size)
  have r1 := (HRES1.out.keep hbx1 HRES1.out.lt).cell 0 (v := .slice p1 6 c1) rfl
  have s1 : (convert 22 9 (.slice p1 6 c1)).run Tryz.prog w6 = .ok (.string ⟨#[97, 32, 10, 98, 99, 100]⟩) w6 := run_str (HBS1.out.2.below hbx1 (Nat.le_refl _)) c1
  have hbx2 : Below w3.heap.size w3 w6 := HBY2.out.trans (hb6.mono HBY2.out.size)
  have r2 := (HRES2.out.keep hbx2 HRES2.out.lt).cell 0 (v := .slice p2 5 c2) rfl
  have s2 : (convert 22 9 (.slice p2 5 c2)).run Tryz.prog w6 = .ok (.string ⟨#[97, 32, 32, 32, 98]⟩) w6 := run_str (HBS2.out.2.below hbx2 (Nat.le_refl _)) c2
  have hbx3 : Below w4.heap.size w4 w6 := HBY3.out.trans (hb6.mono HBY3.out.size)
  have r3 := (HRES3.out.keep hbx3 HRES3.out.lt).cell 0 (v := .slice p3 3 c3) rfl
  have s3 : (convert 22 9 (.slice p3 3 c3)).run Tryz.prog w6 = .ok (.string ⟨#[97, 9, 98]⟩) w6 := run_str (HBS3.out.2.below hbx3 (Nat.le_refl _)) c3
  have hbx4 : Below w5.heap.size w5 w6 := hb6
  have r4 := (HRES4.out.keep hbx4 HRES4.out.lt).cell 0 (v := .slice p4 14 c4) rfl
  have s4 : (convert 22 9 (.slice p4 14 c4)).run Tryz.prog w6 = .ok (.string ⟨#[32, 49, 58, 120, 10, 32, 32, 32, 10, 32, 50, 58, 121, 10]⟩) w6 := run_str (HBS4.out.2.below hbx4 (Nat.le_refl _)) c4
  have HFIN := Lib.hid (HB5.out.trans (hb6.mono HB5.out.size))
  clear hb6 hbx0 hbx1 hbx2 hbx3 hbx4
  go_wp2_with fail
  go_ret
  exact ⟨rfl, HFIN.out⟩

end Go.Proofs.YtbpcfjoebfbjmaaGreatDoor

/-
  The walks of the document's May, and of what it asks of the tree of a job without nodes. Condition: a job without nodes, with arguments.
-/
namespace Go.Proofs.YtbpcfjoebfbjmaaGreatDoor
open Go.RowKit Go.Shelf Go.Maps

/-- The document's tree of no nodes. -/
def RTr (W : World) (t : Nat) : Prop := ∃ a i, Blk W t #[.slice (some ⟨a, 0, none⟩) 1 1, .int .i64 2] 69 ∧ Blk W a #[.pointer (some ⟨i, 0, none⟩)] 53 ∧ Blk W i #[.int .i64 1, .bool true, .int .i64 493, .int .i64 0, .slice none 0 0, .slice none 0 0, .int .i64 1, .int .i64 0] 52
theorem RTr.below {W W' : World} {t : Nat} (h : RTr W t) (hb : Below W.heap.size W W') : RTr W' t := by
  obtain ⟨a, i, h1, h2, h3⟩ := h
  exact ⟨a, i, h1.keep hb h1.lt, h2.keep hb h2.lt, h3.keep hb h3.lt⟩

set_option maxRecDepth 100000 in
set_option maxHeartbeats 1600000 in
theorem rnew_any (w : World) : Calls Tryz.prog 17 #[] w fun e w' => ∃ t, e = .returned (.pointer (some ⟨t, 0, none⟩)) ∧ RTr w' t ∧ Below w.heap.size w w' := by
  go_enter Tryz.func17, Tryz.ntmps17
  go_wp2_with fail
  go_ret
  obtain ⟨w1, h1⟩ : ∃ w1, w.alloc (.cells #[.int .i64 1, .bool true, .int .i64 493, .int .i64 0, .slice none 0 0, .slice none 0 0, .int .i64 1, .int .i64 0] 52) = w1 := ⟨_, rfl⟩
  obtain ⟨w2, h2⟩ : ∃ w2, w1.alloc (.cells #[.pointer (some ⟨w.heap.size, 0, none⟩)] 53) = w2 := ⟨_, rfl⟩
  have s1 : w1.heap.size = w.heap.size + 1 := by rw [← h1]; simp
  have s2 : w2.heap.size = w.heap.size + 1 + 1 := by rw [← h2]; simp [s1]
  have k1 : Blk w1 w.heap.size #[.int .i64 1, .bool true, .int .i64 493, .int .i64 0, .slice none 0 0, .slice none 0 0, .int .i64 1, .int .i64 0] 52 := by rw [← h1]; exact Blk.new _ _ _
  have k2 : Blk w2 (w.heap.size + 1) #[.pointer (some ⟨w.heap.size, 0, none⟩)] 53 := by rw [← h2, ← s1]; exact Blk.new _ _ _
  have k12 : Blk w2 w.heap.size #[.int .i64 1, .bool true, .int .i64 493, .int .i64 0, .slice none 0 0, .slice none 0 0, .int .i64 1, .int .i64 0] 52 := by rw [← h2]; exact k1.alloc _
  have b2 : Below w.heap.size w w2 := by rw [← h2, ← h1]; exact ((Below.refl _ _).alloc (Nat.le_refl _) _).alloc (by simp) _
  rw [h1, h2, ← s2]
  refine ⟨_, rfl, ⟨_, _, Blk.new _ _ _, k2.alloc _, k12.alloc _⟩, b2.alloc b2.size _⟩

set_option maxRecDepth 100000 in
set_option maxHeartbeats 1600000 in
theorem rload_none (c : Nat) (w : World) : Calls Tryz.prog 11 #[.slice none 0 c] w fun e w' => ∃ t, e = .returned (.tuple #[.pointer (some ⟨t, 0, none⟩), .int .i64 0]) ∧ RTr w' t ∧ Below w.heap.size w w' := by
  go_enter Tryz.func11, Tryz.ntmps11
  go_wp2_with fail
  refine (rnew_any _).mono ?_
  rintro e w1 ⟨t, rfl, ht, hb⟩
  have HT := Lib.hid ht
  have HB := Lib.hid hb
  clear ht hb
  go_wp2_with fail
  go_loopw [5] (fun x5 wr => x5 = .int .i64 0 ∧ wr = w1) (fun _ _ => 0)
  case atStart => exact ⟨rfl, rfl⟩
  case round =>
    obtain ⟨rfl, rfl⟩ := hrel
    go_wp2_with fail
    go_ret2
    exact ⟨t, rfl, HT.out, HB.out⟩

set_option maxRecDepth 100000 in
set_option maxHeartbeats 1600000 in
theorem ritem_any (t : Nat) (w : World) (h : RTr w t) : Calls Tryz.prog 13 #[.pointer (some ⟨t, 0, none⟩), .int .i64 1] w fun e w' => ∃ i, e = .returned (.pointer (some ⟨i, 0, none⟩)) ∧ w.cell? ⟨i, 1, none⟩ = some (.bool true) ∧ w' = w := by
  obtain ⟨a, i, h1, h2, h3⟩ := h
  have c1 := h1.cell 0 (v := .slice (some ⟨a, 0, none⟩) 1 1) rfl
  have c2 := h2.cell 0 (v := .pointer (some ⟨i, 0, none⟩)) rfl
  have c3 := h3.cell 0 (v := .int .i64 1) rfl
  have c4 := Lib.hid (h3.cell 1 (v := .bool true) rfl)
  clear h1 h2 h3
  go_enter Tryz.func13, Tryz.ntmps13
  go_wp2_with fail
  go_loopw [5] (fun x5 wr => x5 = .int .i64 0 ∧ wr = w) (fun _ _ => 0)
  case atStart => exact ⟨rfl, rfl⟩
  case round =>
    obtain ⟨rfl, rfl⟩ := hrel
    go_wp2_with fail
    go_ret
    exact ⟨i, rfl, c4.out, rfl⟩

set_option maxRecDepth 100000 in
set_option maxHeartbeats 1600000 in
theorem rparts_nil (w : World) : Calls Tryz.prog 24 #[.string ⟨#[]⟩] w fun e w' => e = .returned (.slice none 0 0) ∧ w' = w := by
  go_enter Tryz.func24, Tryz.ntmps24
  go_wp2_with fail
  go_loopw [3, 4, 5] (fun x3 x4 x5 wr => x3 = .slice none 0 0 ∧ ((x4 = .int .i64 0 ∧ x5 = .int .i64 0) ∨ (x4 = .int .i64 1 ∧ x5 = .int .i64 1)) ∧ wr = w) (fun _ _ x5 _ => 1 - (intOf x5).toNat)
  case atStart => exact ⟨rfl, .inl ⟨rfl, rfl⟩, rfl⟩
  case round =>
    obtain ⟨rfl, h, rfl⟩ := hrel
    rcases h with ⟨rfl, rfl⟩ | ⟨rfl, rfl⟩
    · go_wp2_with fail
      exact ⟨⟨rfl, .inr ⟨rfl, rfl⟩, by first | rfl | trivial⟩, by simp [intOf]⟩
    · go_wp2_with fail
      go_ret
      exact ⟨rfl, rfl⟩
set_option maxRecDepth 100000 in
set_option maxHeartbeats 1600000 in
theorem rparts_one (w : World) : Calls Tryz.prog 24 #[.string ⟨#[47]⟩] w fun e w' => e = .returned (.slice none 0 0) ∧ w' = w := by
  go_enter Tryz.func24, Tryz.ntmps24
  go_wp2_with fail
  go_loopw [3, 4, 5] (fun x3 x4 x5 wr => x3 = .slice none 0 0 ∧ ((x4 = .int .i64 0 ∧ x5 = .int .i64 0) ∨ (x4 = .int .i64 1 ∧ x5 = .int .i64 1) ∨ (x4 = .int .i64 2 ∧ x5 = .int .i64 2)) ∧ wr = w) (fun _ _ x5 _ => 2 - (intOf x5).toNat)
  case atStart => exact ⟨rfl, .inl ⟨rfl, rfl⟩, rfl⟩
  case round =>
    obtain ⟨rfl, h, rfl⟩ := hrel
    rcases h with ⟨rfl, rfl⟩ | ⟨rfl, rfl⟩ | ⟨rfl, rfl⟩
    · go_wp2_with fail
      exact ⟨⟨rfl, .inr (.inl ⟨rfl, rfl⟩), by first | rfl | trivial⟩, by simp [intOf]⟩
    · go_wp2_with fail
      exact ⟨⟨rfl, .inr (.inr ⟨rfl, rfl⟩), by first | rfl | trivial⟩, by simp [intOf]⟩
    · go_wp2_with fail
      go_ret
      exact ⟨rfl, rfl⟩

set_option maxRecDepth 100000 in
set_option maxHeartbeats 1600000 in
theorem rleads_none (t : Nat) (w : World) : Calls Tryz.prog 23 #[.pointer (some ⟨t, 0, none⟩), .int .i64 1, .slice none 0 0] w fun e w' => e = .returned (.tuple #[.int .i64 1, .int .i64 0]) ∧ w' = w := by
  go_enter Tryz.func23, Tryz.ntmps23
  go_wp2_with fail
  go_loopw [1, 8] (fun x1 x8 wr => x1 = .int .i64 1 ∧ x8 = .int .i64 0 ∧ wr = w) (fun _ _ _ => 0)
  case atStart => exact ⟨rfl, rfl, rfl⟩
  case round =>
    obtain ⟨rfl, rfl, rfl⟩ := hrel
    go_wp2_with fail
    go_ret2
    exact ⟨rfl, rfl⟩

set_option maxRecDepth 100000 in
set_option maxHeartbeats 1600000 in
theorem rfrom_any (t : Nat) (w : World) (h : RTr w t) : Calls Tryz.prog 22 #[.pointer (some ⟨t, 0, none⟩), .string ⟨#[]⟩, .string ⟨#[47]⟩] w fun e w' => e = .returned (.tuple #[.int .i64 1, .int .i64 0]) ∧ w' = w := by
  have hit := ritem_any t w h
  clear h
  go_enter Tryz.func22, Tryz.ntmps22
  go_wp2_with fail
  refine (rparts_nil _).mono ?_
  rintro e wa ⟨rfl, rfl⟩
  go_wp2_with fail
  refine (rleads_none _ _).mono ?_
  rintro e wb ⟨rfl, rfl⟩
  go_wp2_with fail
  refine hit.mono ?_
  rintro e wd ⟨i, rfl, hc, rfl⟩
  go_wp2_with fail
  go_ret2
  exact ⟨rfl, rfl⟩

theorem rslash_one (w : World) : Calls Tryz.prog 25 #[.string ⟨#[47]⟩] w fun e w' => e = .returned (.bool true) ∧ w' = w := by
  go_enter Tryz.func25, Tryz.ntmps25
  go_wp2_with fail
  go_ret
  exact ⟨rfl, rfl⟩

set_option maxRecDepth 100000 in
set_option maxHeartbeats 1600000 in
theorem rfind_any (t : Nat) (w : World) (h : RTr w t) : Calls Tryz.prog 12 #[.pointer (some ⟨t, 0, none⟩), .string ⟨#[]⟩, .string ⟨#[47]⟩] w fun e w' => e = .returned (.tuple #[.int .i64 1, .int .i64 0]) ∧ w' = w := by
  have hit := ritem_any t w h
  have hfr := rfrom_any t w h
  clear h
  go_enter Tryz.func12, Tryz.ntmps12
  go_wp2_with fail
  refine hfr.mono ?_
  rintro e wa ⟨rfl, rfl⟩
  go_wp2_with fail
  refine (rparts_one _).mono ?_
  rintro e wb ⟨rfl, rfl⟩
  go_wp2_with fail
  refine (rleads_none _ _).mono ?_
  rintro e wd ⟨rfl, rfl⟩
  go_wp2_with fail
  refine (rslash_one _).mono ?_
  rintro e we ⟨rfl, rfl⟩
  go_wp2_with fail
  refine hit.mono ?_
  rintro e wf ⟨i, rfl, hc, rfl⟩
  go_wp2_with fail
  go_ret2
  exact ⟨rfl, rfl⟩

/-- May such a job be? -/
def mayB (buf line run : Int) : Bool := !(decide (buf < 1) || decide (line < 1) || decide (run < line) || decide (1099511627776 < buf) || decide (1099511627776 < run))

set_option maxRecDepth 100000 in
set_option maxHeartbeats 8000000 in
theorem rmay_any (pa : Option Addr) (na ca : Nat) (hna : 1 ≤ na) (buf line run : Int) (w : World) :
    Calls Tryz.prog 5 #[jobV (.slice pa na ca) (.slice none 0 0) buf line run] w fun e w' => e = .returned (.bool (mayB buf line run)) ∧ Below w.heap.size w w' := by
  obtain ⟨w0, hw0⟩ : ∃ w0, w.alloc (.cells #[.slice pa na ca, .slice none 0 0, .string ⟨#[]⟩, .slice none 0 0, .slice none 0 0, .int .i64 buf, .int .i64 line, .int .i64 run, .slice none 0 0, .int .i64 0, .slice none 0 0] 32) = w0 := ⟨_, rfl⟩
  have hb0 : Below w.heap.size w w0 := by rw [← hw0]; exact (Below.refl _ _).alloc (Nat.le_refl _) _
  have hk0 : Blk w0 w.heap.size #[.slice pa na ca, .slice none 0 0, .string ⟨#[]⟩, .slice none 0 0, .slice none 0 0, .int .i64 buf, .int .i64 line, .int .i64 run, .slice none 0 0, .int .i64 0, .slice none 0 0] 32 := by rw [← hw0]; exact Blk.new _ _ _
  have j4 := hk0.cell 4 (v := .slice none 0 0) rfl
  have HB0 := Lib.hid hb0
  have HK0 := Lib.hid hk0
  clear hb0 hk0
  have hA : decide ((na : Int) < 1) = false := by simp; omega
  unfold jobV
  go_enter Tryz.func5, Tryz.ntmps5
  go_wp2_with fail
  try rw [hw0]
  refine (rload_none _ _).mono ?_
  rintro e w1 ⟨t, rfl, ht, hb⟩
  have hk1 := HK0.out.keep hb HK0.out.lt
  have e0 := hk1.cell 0 (v := .slice pa na ca) rfl
  have e2 := hk1.cell 2 (v := .string ⟨#[]⟩) rfl
  have e5 := hk1.cell 5 (v := .int .i64 buf) rfl
  have e6 := hk1.cell 6 (v := .int .i64 line) rfl
  have e7 := hk1.cell 7 (v := .int .i64 run) rfl
  have e9 := hk1.cell 9 (v := .int .i64 0) rfl
  have HT := Lib.hid ht
  have HB := Lib.hid (HB0.out.trans (hb.mono HB0.out.size))
  clear hk1 ht hb j4 hw0
  cases h1 : decide (buf < 1) with
  | true =>
    have HM : Hid (mayB buf line run = false) := Lib.hid (by unfold mayB; rw [h1]; rfl)
    go_wp2_with fail
    go_ret
    exact ⟨by rw [HM.out]; rfl, HB.out⟩
  | false =>
    cases h2 : decide (line < 1) with
    | true =>
      have HM : Hid (mayB buf line run = false) := Lib.hid (by unfold mayB; rw [h1, h2]; rfl)
      go_wp2_with fail
      go_ret
      exact ⟨by rw [HM.out]; rfl, HB.out⟩
    | false =>
      cases h3 : decide (run < line) with
      | true =>
        have HM : Hid (mayB buf line run = false) := Lib.hid (by unfold mayB; rw [h1, h2, h3]; rfl)
        go_wp2_with fail
        go_ret
        exact ⟨by rw [HM.out]; rfl, HB.out⟩
      | false =>
        cases h4 : decide (1099511627776 < buf) with
        | true =>
          have HM : Hid (mayB buf line run = false) := Lib.hid (by unfold mayB; rw [h1, h2, h3, h4]; rfl)
          go_wp2_with fail
          go_ret
          exact ⟨by rw [HM.out]; rfl, HB.out⟩
        | false =>
          cases h5 : decide (1099511627776 < run) with
          | true =>
            have HM : Hid (mayB buf line run = false) := Lib.hid (by unfold mayB; rw [h1, h2, h3, h4, h5]; rfl)
            go_wp2_with fail
            go_ret
            exact ⟨by rw [HM.out]; rfl, HB.out⟩
          | false =>
            have HM : Hid (mayB buf line run = true) := Lib.hid (by unfold mayB; rw [h1, h2, h3, h4, h5]; rfl)
            have hfi := rfind_any t w1 HT.out
            have hit := ritem_any t w1 HT.out
            go_wp2_with fail
            rw [show ((⟨#[47]⟩ : ByteArray) ++ ⟨#[]⟩) = ⟨#[47]⟩ from rfl]
            refine hfi.mono ?_
            rintro e wa ⟨rfl, rfl⟩
            clear hfi
            go_wp2_with fail
            refine hit.mono ?_
            rintro e wb ⟨i, rfl, hc, rfl⟩
            go_wp2_with fail
            go_ret
            exact ⟨by rw [HM.out]; rfl, HB.out⟩

end Go.Proofs.YtbpcfjoebfbjmaaGreatDoor
