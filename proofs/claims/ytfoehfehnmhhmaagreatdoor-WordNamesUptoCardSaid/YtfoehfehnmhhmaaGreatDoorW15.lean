/-
  The walk of cut, of what inner gives. Condition: lengths.
-/
import Derived.Test.YtfoehfehnmhhmaaGreatDoorW14
namespace Go.Proofs.YtfoehfehnmhhmaaGreatDoor
open Go.RowKit Go.Shelf Go.Maps

theorem info_int : (Tryz.prog.info? 3).map (fun i => (i.zero, i.size, i.bytes)) = some (some (.int .i64 0), 1, 8) := by kernel_rfl

/-- The lengths that are tried, in their order. -/
def sizesOf (n : Nat) (long : Bool) : List Nat := if long = true then (List.range (n + 1)).reverse else List.range (n + 1)
def sizeAt (n : Nat) (long : Bool) (i : Nat) : Nat := if long = true then n - i else i
theorem sizesOf_drop {n : Nat} {long : Bool} {i : Nat} (hi : i < n + 1) : (sizesOf n long).drop i = sizeAt n long i :: (sizesOf n long).drop (i + 1) := by
  have hl : i < (sizesOf n long).length := by unfold sizesOf; split <;> simp [hi]
  rw [List.drop_eq_getElem_cons hl]
  congr 1
  unfold sizesOf sizeAt
  cases long
  · simp
  · simp
theorem sizesOf_end {n : Nat} {long : Bool} : (sizesOf n long).drop (n + 1) = [] := by
  apply List.drop_eq_nil_of_le
  unfold sizesOf; split <;> simp
theorem sizeAt_le {n : Nat} {long : Bool} {i : Nat} (hi : i < n + 1) : sizeAt n long i ≤ n := by
  unfold sizeAt; split <;> omega

/-- What a round of the second loop knows. -/
structure CutIn (w0 w : World) (q : Nat) (p v u : Wd.Bytes) (back : Bool) (long : Bool) (i : Nat) : Prop where
  res : Wd.cutF p v back ((sizesOf v.length long).drop i) = some u
  below : Below w0.heap.size w0 w
  row : w.rowIs q 3 (v.length + 1) (fun i => .int .i64 (sizeAt v.length long i : Nat))
  q : w0.heap.size ≤ q

theorem rowIs_below {w w' : World} {b : Nat} {t : TypeId} {n : Nat} {f : Nat → Value} (h : w.rowIs b t n f) (hb : Below w.heap.size w w') : w'.rowIs b t n f := h.of_block (hb.block b h.lt)

/-- What a round of the first loop knows. -/
structure FillIn (w0 w : World) (q n i : Nat) : Prop where
  below : Below w0.heap.size w0 w
  row : w.rowIs q 3 n (fun j => if j < i then .int .i64 (j : Nat) else .int .i64 0)
  q : w0.heap.size ≤ q

theorem FillIn.next {w0 w : World} {q n i : Nat} (h : FillIn w0 w q n i) : FillIn w0 (w.setCell ⟨q, i, none⟩ (.int .i64 (i : Nat))) q n (i + 1) := by
  refine ⟨h.below.setCell (p := ⟨q, i, none⟩) h.q _, ?_, h.q⟩
  refine (h.row.set i _).congr fun j _ => ?_
  by_cases h1 : j = i
  · subst h1; simp
  · rw [if_neg h1]
    by_cases h2 : j < i
    · rw [if_pos h2, if_pos (by omega)]
    · rw [if_neg h2, if_neg (by omega)]

theorem extr_take (l : List UInt8) (k : Nat) : (⟨l.toArray⟩ : ByteArray).extract 0 k = ⟨(l.take k).toArray⟩ := extract_take l k

set_option maxHeartbeats 6400000 in
set_option maxRecDepth 100000 in
theorem cut_pc (f : Nat) (hI : InnerC f) (w : World) (b : Nat) (vv av v : Value) (x : Wd.Ex) (val ww : Wd.Bytes) (l : List Wd.Un) (u : Wd.Bytes) (long : Bool) (h : ExAt w b vv av x v) (hg : Glo w) (h8 : 8 ≤ b)
    (hval : val.length < 1073741824) (hww : ww.length < 1073741824) (hlong : Wd.pre [37] ww = long) (hin : Wd.inner f x (if long = true then ww.drop 1 else ww) = some l) (hu : Wd.cutF (Wd.pattern l) val true (sizesOf val.length long) = some u) :
    Calls Tryz.prog 76 #[.pointer (some ⟨b, 0, none⟩), .string ⟨val.toArray⟩, .string ⟨(37 :: ww).toArray⟩] w fun e w' => e = .returned (.string ⟨u.toArray⟩) ∧ ExIs w w' b vv av x v v := by
  have hcp := cutPrefix_any ww [37] w
  rw [hlong] at hcp
  have hdl : (if long = true then ww.drop 1 else ww).length < 1073741824 := by split <;> (try rw [List.length_drop]) <;> omega
  have hin2 := hI w b vv av v x _ l h hg h8 hdl hin
  have hll := inner_len hin
  have hpl := pattern_len l
  rw [show ([37] : Wd.Bytes).length = 1 from rfl] at hcp
  generalize (if long = true then ww.drop 1 else ww) = inn at *
  have exo : (⟨(37 :: ww).toArray⟩ : ByteArray).extract 0 1 = ⟨#[37]⟩ := extr_take (37 :: ww) 1
  have exw : (⟨(37 :: ww).toArray⟩ : ByteArray).extract 1 (37 :: ww).length = ⟨ww.toArray⟩ := extract_drop (37 :: ww) 1
  have exw' : (⟨(37 :: ww).toArray⟩ : ByteArray).extract 1 (ww.length + 1) = ⟨ww.toArray⟩ := extract_drop (37 :: ww) 1
  have hol : (37 :: ww).length = ww.length + 1 := by simp
  have HU := Lib.hid hu
  clear h hg h8 hI hin hu hlong
  obtain ⟨i0, hi, hz0, hz1, hz2⟩ := info_parts info_int
  go_enter Tryz.func76, Tryz.ntmps76
  go_wp2_with fail
  refine hcp.mono ?_
  rintro e w1 ⟨rfl, rfl⟩
  clear hcp
  go_wp2_with fail
  refine hin2.mono ?_
  rintro e w2 ⟨v2, rfl, hown, hx⟩
  have hpa := pattern_any _ v2 l w2 hown (by omega)
  have HX := Lib.hid hx
  clear hin2 hown hx
  generalize Wd.pattern l = P at *
  go_wp2_with fail
  refine hpa.mono ?_
  rintro e w3 ⟨rfl, hb3⟩
  have HX3 := Lib.hid (HX.out.below hb3)
  clear hpa hb3 HX
  obtain ⟨N, hN⟩ : ∃ N : Nat, N = val.length + 1 := ⟨_, rfl⟩
  have hN1 : (val.length : Int) + 1 = (N : Int) := by omega
  have hN2 : N ≤ 1073741824 := by omega
  have HN := Lib.hid hN
  clear hN
  go_wp2_with (refine wpList_make_row _ rfl _ _ 116 rfl 3 i0 (.int .i64 0) Tryz.underlying116 hi hz0 hz1 rfl .i64 .i64 N rfl rfl (by rw [hz2]; omega) (by omega) ?_)
  have hrow := World.rowIs_made w3 (.int .i64 0) N 3
  have F0 : Hid (FillIn w3 (w3.alloc (.cells (madeCells #[.int .i64 0] N) 3)) w3.heap.size N 0) := ⟨(Below.refl _ _).alloc (Nat.le_refl _) _, hrow, Nat.le_refl _⟩
  clear hrow
  generalize w3.alloc (.cells (madeCells #[.int .i64 0] N) 3) = w4 at *
  generalize w3.heap.size = q at *
  go_loopw [12, 35] (fun _ x35 wr => ∃ (i : Nat), i ≤ N ∧ x35 = .int .i64 i ∧ Hid (FillIn w3 wr q N i)) (fun _ x35 _ => N - (intOf x35).toNat)
  case atStart => exact ⟨0, Nat.zero_le _, rfl, F0⟩
  case round =>
    obtain ⟨i, hi, rfl, HF⟩ := hrel
    by_cases hlt : i < N
    · have ic : (i : Int) < (N : Int) := by omega
      have cq := HF.out.row.cell hlt
      rw [if_neg (Nat.lt_irrefl i)] at cq
      have fq := HF.out.row.frozen i
      have HF2 := Lib.hid HF.out.next
      go_wp2_with fail
      refine ⟨⟨i + 1, by omega, by go_num, HF2.out⟩, ?_⟩
      show N - ((i : Int) + 1).toNat < N - (i : Int).toNat
      omega
    · obtain rfl : N = i := by omega
      have hrow : wr.rowIs q 3 N (fun j => .int .i64 (j : Nat)) := HF.out.row.congr fun j hj => by rw [if_pos hj]
      have G : ∀ w6, wr.heap.size ≤ w6.heap.size → Below w3.heap.size w3 w6 → w6.rowIs q 3 N (fun j => .int .i64 (sizeAt val.length long j : Nat)) → Hid (CutIn w3 w6 q P val u true long 0) := fun w6 _ h1 h2 => ⟨HU.out, h1, by rw [← HN.out]; exact h2, HF.out.q⟩
      cases long with
      | false =>
        have G0 := G wr (Nat.le_refl _) HF.out.below (hrow.congr fun j hj => rfl)
        clear G hrow
        go_wp2_with fail
        go_loopw [14, 15, 48, 59, 72] (fun _ _ x48 _ _ wr => ∃ (i : Nat), i ≤ N ∧ x48 = .int .i64 i ∧ Hid (CutIn w3 wr q P val u true false i)) (fun _ _ x48 _ _ _ => N - (intOf x48).toNat)
        case atStart => exact ⟨0, Nat.zero_le _, rfl, G0⟩
        case round =>
          obtain ⟨i, hi, rfl, HC⟩ := hrel
          by_cases hlt : i < N
          · have ic : (i : Int) < (N : Int) := by omega
            have hr := HC.out.res
            have hNv := HN.out
            have cq := HC.out.row.cell (by rw [← HN.out]; exact hlt)
            have hsz := sizeAt_le (n := val.length) (long := false) (i := i) (by rw [← HN.out]; exact hlt)
            rw [sizesOf_drop (by rw [← HN.out]; exact hlt), Wd.cutF.eq_def] at hr
            simp only [if_true] at hr
            generalize sizeAt val.length false i = n at *
            obtain ⟨k, hk⟩ : ∃ k : Nat, k = val.length - n := ⟨_, rfl⟩
            have hk1 : (val.length : Int) - (n : Int) = (k : Int) := by omega
            have hk2 : k ≤ val.length := by omega
            have hk3 : (k : Int) ≤ (val.length : Int) := by omega
            have hn3 : (n : Int) ≤ (val.length : Int) := by omega
            have ext := extr_take val
            have exd := extract_from val
            rw [← hk] at hr
            clear hk hNv
            rcases hgl : Wd.glob P (val.drop k) with _ | _ | _
            · rw [hgl] at hr; cases hr
            · have hG := glob_any P (val.drop k) false (by omega) (by simp; omega) hgl wr
              rw [hgl] at hr
              have HR := Lib.hid hr
              clear hr hgl
              go_wp2_with fail
              refine hG.mono ?_
              rintro e w7 ⟨rfl, hb7⟩
              have HC7 : Hid (CutIn w3 w7 q P val u true false (i + 1)) := ⟨HR.out, HC.out.below.trans (hb7.mono HC.out.below.size), rowIs_below HC.out.row hb7, HC.out.q⟩
              clear hb7 hG
              go_wp2_with fail
              refine ⟨⟨i + 1, by omega, by go_num, HC7⟩, ?_⟩
              show N - ((i : Int) + 1).toNat < N - (i : Int).toNat
              omega
            · have hG := glob_any P (val.drop k) true (by omega) (by simp; omega) hgl wr
              rw [hgl] at hr
              have HR := Lib.hid hr
              clear hr hgl
              go_wp2_with fail
              refine hG.mono ?_
              rintro e w7 ⟨rfl, hb7⟩
              have HB7 := Lib.hid (HC.out.below.trans (hb7.mono HC.out.below.size))
              clear hb7 hG
              go_wp2_with fail
              go_ret
              have hh := HR.out
              simp only [Option.some.injEq] at hh
              subst hh
              exact ⟨rfl, HX3.out.below HB7.out⟩
          · obtain rfl : N = i := by omega
            have hr := HC.out.res
            rw [HN.out, sizesOf_end] at hr
            have HV := Lib.hid hr
            clear hr
            go_wp2_with fail
            go_ret
            have hh := HV.out
            simp only [Wd.cutF, Option.some.injEq] at hh
            subst hh
            exact ⟨rfl, HX3.out.below HC.out.below⟩
      | true =>
        have hrev := reversed_any wr q N N hrow (by omega)
        go_wp2_with fail
        refine hrev.mono ?_
        rintro e w6 ⟨rfl, hr6, hb6⟩
        have G0 := G w6 hb6.size (HF.out.below.trans (hb6.mono HF.out.q)) (hr6.congr fun j hj => by
          show Value.int .i64 _ = .int .i64 _
          rw [show N - 1 - j = sizeAt val.length true j by unfold sizeAt; rw [if_pos rfl, HN.out]; omega])
        clear G hrow hrev hr6 hb6
        go_wp2_with fail
        go_loopw [14, 15, 48, 59, 72] (fun _ _ x48 _ _ wr => ∃ (i : Nat), i ≤ N ∧ x48 = .int .i64 i ∧ Hid (CutIn w3 wr q P val u true true i)) (fun _ _ x48 _ _ _ => N - (intOf x48).toNat)
        case atStart => exact ⟨0, Nat.zero_le _, rfl, G0⟩
        case round =>
          obtain ⟨i, hi, rfl, HC⟩ := hrel
          by_cases hlt : i < N
          · have ic : (i : Int) < (N : Int) := by omega
            have hr := HC.out.res
            have hNv := HN.out
            have cq := HC.out.row.cell (by rw [← HN.out]; exact hlt)
            have hsz := sizeAt_le (n := val.length) (long := true) (i := i) (by rw [← HN.out]; exact hlt)
            rw [sizesOf_drop (by rw [← HN.out]; exact hlt), Wd.cutF.eq_def] at hr
            simp only [if_true] at hr
            generalize sizeAt val.length true i = n at *
            obtain ⟨k, hk⟩ : ∃ k : Nat, k = val.length - n := ⟨_, rfl⟩
            have hk1 : (val.length : Int) - (n : Int) = (k : Int) := by omega
            have hk2 : k ≤ val.length := by omega
            have hk3 : (k : Int) ≤ (val.length : Int) := by omega
            have hn3 : (n : Int) ≤ (val.length : Int) := by omega
            have ext := extr_take val
            have exd := extract_from val
            rw [← hk] at hr
            clear hk hNv
            rcases hgl : Wd.glob P (val.drop k) with _ | _ | _
            · rw [hgl] at hr; cases hr
            · have hG := glob_any P (val.drop k) false (by omega) (by simp; omega) hgl wr
              rw [hgl] at hr
              have HR := Lib.hid hr
              clear hr hgl
              go_wp2_with fail
              refine hG.mono ?_
              rintro e w7 ⟨rfl, hb7⟩
              have HC7 : Hid (CutIn w3 w7 q P val u true true (i + 1)) := ⟨HR.out, HC.out.below.trans (hb7.mono HC.out.below.size), rowIs_below HC.out.row hb7, HC.out.q⟩
              clear hb7 hG
              go_wp2_with fail
              refine ⟨⟨i + 1, by omega, by go_num, HC7⟩, ?_⟩
              show N - ((i : Int) + 1).toNat < N - (i : Int).toNat
              omega
            · have hG := glob_any P (val.drop k) true (by omega) (by simp; omega) hgl wr
              rw [hgl] at hr
              have HR := Lib.hid hr
              clear hr hgl
              go_wp2_with fail
              refine hG.mono ?_
              rintro e w7 ⟨rfl, hb7⟩
              have HB7 := Lib.hid (HC.out.below.trans (hb7.mono HC.out.below.size))
              clear hb7 hG
              go_wp2_with fail
              go_ret
              have hh := HR.out
              simp only [Option.some.injEq] at hh
              subst hh
              exact ⟨rfl, HX3.out.below HB7.out⟩
          · obtain rfl : N = i := by omega
            have hr := HC.out.res
            rw [HN.out, sizesOf_end] at hr
            have HV := Lib.hid hr
            clear hr
            go_wp2_with fail
            go_ret
            have hh := HV.out
            simp only [Wd.cutF, Option.some.injEq] at hh
            subst hh
            exact ⟨rfl, HX3.out.below HC.out.below⟩

set_option maxHeartbeats 6400000 in
set_option maxRecDepth 100000 in
theorem cut_sh (f : Nat) (hI : InnerC f) (w : World) (b : Nat) (vv av v : Value) (x : Wd.Ex) (val ww : Wd.Bytes) (l : List Wd.Un) (u : Wd.Bytes) (long : Bool) (h : ExAt w b vv av x v) (hg : Glo w) (h8 : 8 ≤ b)
    (hval : val.length < 1073741824) (hww : ww.length < 1073741824) (hlong : Wd.pre [35] ww = long) (hin : Wd.inner f x (if long = true then ww.drop 1 else ww) = some l) (hu : Wd.cutF (Wd.pattern l) val false (sizesOf val.length long) = some u) :
    Calls Tryz.prog 76 #[.pointer (some ⟨b, 0, none⟩), .string ⟨val.toArray⟩, .string ⟨(35 :: ww).toArray⟩] w fun e w' => e = .returned (.string ⟨u.toArray⟩) ∧ ExIs w w' b vv av x v v := by
  have hcp := cutPrefix_any ww [35] w
  rw [hlong] at hcp
  have hdl : (if long = true then ww.drop 1 else ww).length < 1073741824 := by split <;> (try rw [List.length_drop]) <;> omega
  have hin2 := hI w b vv av v x _ l h hg h8 hdl hin
  have hll := inner_len hin
  have hpl := pattern_len l
  rw [show ([35] : Wd.Bytes).length = 1 from rfl] at hcp
  generalize (if long = true then ww.drop 1 else ww) = inn at *
  have exo : (⟨(35 :: ww).toArray⟩ : ByteArray).extract 0 1 = ⟨#[35]⟩ := extr_take (35 :: ww) 1
  have exw : (⟨(35 :: ww).toArray⟩ : ByteArray).extract 1 (35 :: ww).length = ⟨ww.toArray⟩ := extract_drop (35 :: ww) 1
  have exw' : (⟨(35 :: ww).toArray⟩ : ByteArray).extract 1 (ww.length + 1) = ⟨ww.toArray⟩ := extract_drop (35 :: ww) 1
  have hol : (35 :: ww).length = ww.length + 1 := by simp
  have HU := Lib.hid hu
  clear h hg h8 hI hin hu hlong
  obtain ⟨i0, hi, hz0, hz1, hz2⟩ := info_parts info_int
  go_enter Tryz.func76, Tryz.ntmps76
  go_wp2_with fail
  refine hcp.mono ?_
  rintro e w1 ⟨rfl, rfl⟩
  clear hcp
  go_wp2_with fail
  refine hin2.mono ?_
  rintro e w2 ⟨v2, rfl, hown, hx⟩
  have hpa := pattern_any _ v2 l w2 hown (by omega)
  have HX := Lib.hid hx
  clear hin2 hown hx
  generalize Wd.pattern l = P at *
  go_wp2_with fail
  refine hpa.mono ?_
  rintro e w3 ⟨rfl, hb3⟩
  have HX3 := Lib.hid (HX.out.below hb3)
  clear hpa hb3 HX
  obtain ⟨N, hN⟩ : ∃ N : Nat, N = val.length + 1 := ⟨_, rfl⟩
  have hN1 : (val.length : Int) + 1 = (N : Int) := by omega
  have hN2 : N ≤ 1073741824 := by omega
  have HN := Lib.hid hN
  clear hN
  go_wp2_with (refine wpList_make_row _ rfl _ _ 116 rfl 3 i0 (.int .i64 0) Tryz.underlying116 hi hz0 hz1 rfl .i64 .i64 N rfl rfl (by rw [hz2]; omega) (by omega) ?_)
  have hrow := World.rowIs_made w3 (.int .i64 0) N 3
  have F0 : Hid (FillIn w3 (w3.alloc (.cells (madeCells #[.int .i64 0] N) 3)) w3.heap.size N 0) := ⟨(Below.refl _ _).alloc (Nat.le_refl _) _, hrow, Nat.le_refl _⟩
  clear hrow
  generalize w3.alloc (.cells (madeCells #[.int .i64 0] N) 3) = w4 at *
  generalize w3.heap.size = q at *
  go_loopw [12, 35] (fun _ x35 wr => ∃ (i : Nat), i ≤ N ∧ x35 = .int .i64 i ∧ Hid (FillIn w3 wr q N i)) (fun _ x35 _ => N - (intOf x35).toNat)
  case atStart => exact ⟨0, Nat.zero_le _, rfl, F0⟩
  case round =>
    obtain ⟨i, hi, rfl, HF⟩ := hrel
    by_cases hlt : i < N
    · have ic : (i : Int) < (N : Int) := by omega
      have cq := HF.out.row.cell hlt
      rw [if_neg (Nat.lt_irrefl i)] at cq
      have fq := HF.out.row.frozen i
      have HF2 := Lib.hid HF.out.next
      go_wp2_with fail
      refine ⟨⟨i + 1, by omega, by go_num, HF2.out⟩, ?_⟩
      show N - ((i : Int) + 1).toNat < N - (i : Int).toNat
      omega
    · obtain rfl : N = i := by omega
      have hrow : wr.rowIs q 3 N (fun j => .int .i64 (j : Nat)) := HF.out.row.congr fun j hj => by rw [if_pos hj]
      have G : ∀ w6, wr.heap.size ≤ w6.heap.size → Below w3.heap.size w3 w6 → w6.rowIs q 3 N (fun j => .int .i64 (sizeAt val.length long j : Nat)) → Hid (CutIn w3 w6 q P val u false long 0) := fun w6 _ h1 h2 => ⟨HU.out, h1, by rw [← HN.out]; exact h2, HF.out.q⟩
      cases long with
      | false =>
        have G0 := G wr (Nat.le_refl _) HF.out.below (hrow.congr fun j hj => rfl)
        clear G hrow
        go_wp2_with fail
        go_loopw [14, 15, 48, 59, 72] (fun _ _ x48 _ _ wr => ∃ (i : Nat), i ≤ N ∧ x48 = .int .i64 i ∧ Hid (CutIn w3 wr q P val u false false i)) (fun _ _ x48 _ _ _ => N - (intOf x48).toNat)
        case atStart => exact ⟨0, Nat.zero_le _, rfl, G0⟩
        case round =>
          obtain ⟨i, hi, rfl, HC⟩ := hrel
          by_cases hlt : i < N
          · have ic : (i : Int) < (N : Int) := by omega
            have hr := HC.out.res
            have hNv := HN.out
            have cq := HC.out.row.cell (by rw [← HN.out]; exact hlt)
            have hsz := sizeAt_le (n := val.length) (long := false) (i := i) (by rw [← HN.out]; exact hlt)
            rw [sizesOf_drop (by rw [← HN.out]; exact hlt), Wd.cutF.eq_def] at hr
            simp only [Bool.false_eq_true, if_false] at hr
            generalize sizeAt val.length false i = n at *
            obtain ⟨k, hk⟩ : ∃ k : Nat, k = val.length - n := ⟨_, rfl⟩
            have hk1 : (val.length : Int) - (n : Int) = (k : Int) := by omega
            have hk2 : k ≤ val.length := by omega
            have hk3 : (k : Int) ≤ (val.length : Int) := by omega
            have hn3 : (n : Int) ≤ (val.length : Int) := by omega
            have ext := extr_take val
            have exd := extract_from val
            clear hk hNv
            rcases hgl : Wd.glob P (val.take n) with _ | _ | _
            · rw [hgl] at hr; cases hr
            · have hG := glob_any P (val.take n) false (by omega) (by simp; omega) hgl wr
              rw [hgl] at hr
              have HR := Lib.hid hr
              clear hr hgl
              go_wp2_with fail
              refine hG.mono ?_
              rintro e w7 ⟨rfl, hb7⟩
              have HC7 : Hid (CutIn w3 w7 q P val u false false (i + 1)) := ⟨HR.out, HC.out.below.trans (hb7.mono HC.out.below.size), rowIs_below HC.out.row hb7, HC.out.q⟩
              clear hb7 hG
              go_wp2_with fail
              refine ⟨⟨i + 1, by omega, by go_num, HC7⟩, ?_⟩
              show N - ((i : Int) + 1).toNat < N - (i : Int).toNat
              omega
            · have hG := glob_any P (val.take n) true (by omega) (by simp; omega) hgl wr
              rw [hgl] at hr
              have HR := Lib.hid hr
              clear hr hgl
              go_wp2_with fail
              refine hG.mono ?_
              rintro e w7 ⟨rfl, hb7⟩
              have HB7 := Lib.hid (HC.out.below.trans (hb7.mono HC.out.below.size))
              clear hb7 hG
              go_wp2_with fail
              go_ret
              have hh := HR.out
              simp only [Option.some.injEq] at hh
              subst hh
              exact ⟨rfl, HX3.out.below HB7.out⟩
          · obtain rfl : N = i := by omega
            have hr := HC.out.res
            rw [HN.out, sizesOf_end] at hr
            have HV := Lib.hid hr
            clear hr
            go_wp2_with fail
            go_ret
            have hh := HV.out
            simp only [Wd.cutF, Option.some.injEq] at hh
            subst hh
            exact ⟨rfl, HX3.out.below HC.out.below⟩
      | true =>
        have hrev := reversed_any wr q N N hrow (by omega)
        go_wp2_with fail
        refine hrev.mono ?_
        rintro e w6 ⟨rfl, hr6, hb6⟩
        have G0 := G w6 hb6.size (HF.out.below.trans (hb6.mono HF.out.q)) (hr6.congr fun j hj => by
          show Value.int .i64 _ = .int .i64 _
          rw [show N - 1 - j = sizeAt val.length true j by unfold sizeAt; rw [if_pos rfl, HN.out]; omega])
        clear G hrow hrev hr6 hb6
        go_wp2_with fail
        go_loopw [14, 15, 48, 59, 72] (fun _ _ x48 _ _ wr => ∃ (i : Nat), i ≤ N ∧ x48 = .int .i64 i ∧ Hid (CutIn w3 wr q P val u false true i)) (fun _ _ x48 _ _ _ => N - (intOf x48).toNat)
        case atStart => exact ⟨0, Nat.zero_le _, rfl, G0⟩
        case round =>
          obtain ⟨i, hi, rfl, HC⟩ := hrel
          by_cases hlt : i < N
          · have ic : (i : Int) < (N : Int) := by omega
            have hr := HC.out.res
            have hNv := HN.out
            have cq := HC.out.row.cell (by rw [← HN.out]; exact hlt)
            have hsz := sizeAt_le (n := val.length) (long := true) (i := i) (by rw [← HN.out]; exact hlt)
            rw [sizesOf_drop (by rw [← HN.out]; exact hlt), Wd.cutF.eq_def] at hr
            simp only [Bool.false_eq_true, if_false] at hr
            generalize sizeAt val.length true i = n at *
            obtain ⟨k, hk⟩ : ∃ k : Nat, k = val.length - n := ⟨_, rfl⟩
            have hk1 : (val.length : Int) - (n : Int) = (k : Int) := by omega
            have hk2 : k ≤ val.length := by omega
            have hk3 : (k : Int) ≤ (val.length : Int) := by omega
            have hn3 : (n : Int) ≤ (val.length : Int) := by omega
            have ext := extr_take val
            have exd := extract_from val
            clear hk hNv
            rcases hgl : Wd.glob P (val.take n) with _ | _ | _
            · rw [hgl] at hr; cases hr
            · have hG := glob_any P (val.take n) false (by omega) (by simp; omega) hgl wr
              rw [hgl] at hr
              have HR := Lib.hid hr
              clear hr hgl
              go_wp2_with fail
              refine hG.mono ?_
              rintro e w7 ⟨rfl, hb7⟩
              have HC7 : Hid (CutIn w3 w7 q P val u false true (i + 1)) := ⟨HR.out, HC.out.below.trans (hb7.mono HC.out.below.size), rowIs_below HC.out.row hb7, HC.out.q⟩
              clear hb7 hG
              go_wp2_with fail
              refine ⟨⟨i + 1, by omega, by go_num, HC7⟩, ?_⟩
              show N - ((i : Int) + 1).toNat < N - (i : Int).toNat
              omega
            · have hG := glob_any P (val.take n) true (by omega) (by simp; omega) hgl wr
              rw [hgl] at hr
              have HR := Lib.hid hr
              clear hr hgl
              go_wp2_with fail
              refine hG.mono ?_
              rintro e w7 ⟨rfl, hb7⟩
              have HB7 := Lib.hid (HC.out.below.trans (hb7.mono HC.out.below.size))
              clear hb7 hG
              go_wp2_with fail
              go_ret
              have hh := HR.out
              simp only [Option.some.injEq] at hh
              subst hh
              exact ⟨rfl, HX3.out.below HB7.out⟩
          · obtain rfl : N = i := by omega
            have hr := HC.out.res
            rw [HN.out, sizesOf_end] at hr
            have HV := Lib.hid hr
            clear hr
            go_wp2_with fail
            go_ret
            have hh := HV.out
            simp only [Wd.cutF, Option.some.injEq] at hh
            subst hh
            exact ⟨rfl, HX3.out.below HC.out.below⟩

end Go.Proofs.YtfoehfehnmhhmaaGreatDoor
