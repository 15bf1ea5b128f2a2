/-
  Texts of this seat put together: V4.
-/
import Derived.Test.YtbpcfjoebfbjmaaGreatDoorQ12

/-
  The walk of fold's filter. Conditions: bytes by which a column goes on by one; a width of at least one; lengths.
-/
namespace Go.Proofs.YtbpcfjoebfbjmaaGreatDoor
open Go.RowKit Go.Shelf Go.Maps

theorem row_keep {w w' : World} {base : Nat} {e : TypeId} {size : Nat} {v : Value} {n : Nat} {xs : List Value} (h : w.ownsRow base e size v n xs) (hb : Below w.heap.size w w') : w'.ownsRow base e size v n xs := by
  have hg : ∀ row, w.grownBy w' row := fun _ => ⟨hb.os, hb.tape, hb.output, hb.size, fun k hk _ => hb.block k hk⟩
  cases hv : v.ownBlock with
  | none => exact h.kept (hg none) (.inl hv)
  | some g => exact h.kept (hg none) (.inr (by rw [hv]; simp))
theorem row_sle {w : World} {B n : Nat} {v : Value} {xs : Bts} (h : w.ownsRow B 5 1 v n (xs.map u8V)) (hn : n = xs.length) : SlE w (fun g => B ≤ g) v xs := by
  subst hn
  exact (SlE.of (Sl.own h)).mono fun _ _ hg => hg.1
theorem row_blk {w : World} {base : Nat} {e : TypeId} {size : Nat} {v : Value} {n : Nat} {xs : List Value} (h : w.ownsRow base e size v n xs) : ∀ k, v.ownBlock = some k → base ≤ k := by
  intro k hk
  rcases h.2 with ⟨h1, -⟩ | ⟨g, cap, cur, e, hg, -⟩
  · rw [h1] at hk; cases hk
  · rw [e] at hk
    have : g = k := by simpa [Value.ownBlock] using hk
    omega
theorem below_grown {B : Nat} {w w1 : World} {row : Option Nat} (hg : w.grownBy w1 row) (hr : ∀ k, row = some k → B ≤ k) (hB : B ≤ w.heap.size) : Below B w w1 :=
  ⟨hg.os, hg.tape, hg.output, hg.size, fun k hk => hg.block k (by omega) fun e => by have := hr k e.symm; omega⟩

theorem lastBlank_hit (l : Bts) (k : Nat) (h : k < l.length) (hb : Wi.blank (l.getD k 0) = true) (hn : ∀ j, k < j → j < l.length → Wi.blank (l.getD j 0) = false) : Wi.lastBlank l = k + 1 := by
  have hf : l.reverse.findIdx? Wi.blank = some (l.length - 1 - k) := by
    rw [List.findIdx?_eq_some_iff_getElem]
    refine ⟨by simp; omega, ?_, fun j hj => ?_⟩
    · rw [List.getElem_reverse]
      have e : l.length - 1 - (l.length - 1 - k) = k := by omega
      simp only [e]
      rw [List.getD_eq_getElem?_getD, List.getElem?_eq_getElem h] at hb
      exact hb
    · rw [List.getElem_reverse]
      have h1 := hn (l.length - 1 - j) (by omega) (by omega)
      rw [List.getD_eq_getElem?_getD, List.getElem?_eq_getElem (by omega)] at h1
      simpa using h1
  unfold Wi.lastBlank
  rw [hf]
  simp only
  omega
theorem lastBlank_none (l : Bts) (hn : ∀ j, j < l.length → Wi.blank (l.getD j 0) = false) : Wi.lastBlank l = l.length := by
  have hf : l.reverse.findIdx? Wi.blank = none := by
    rw [List.findIdx?_eq_none_iff]
    intro x hx
    obtain ⟨i, hi, rfl⟩ := List.mem_iff_getElem.1 (List.mem_reverse.1 hx)
    have h1 := hn i hi
    rw [List.getD_eq_getElem?_getD, List.getElem?_eq_getElem hi] at h1
    exact h1
  unfold Wi.lastBlank
  rw [hf]

/-- How many bytes go into a line. -/
def cutAt (sp : Bool) (wd : Nat) (R : Bts) : Nat := if sp then Wi.lastBlank (R.take wd) else wd
theorem cutAt_le (sp : Bool) (wd : Nat) (hw : 1 ≤ wd) (R : Bts) (hR : wd < R.length) : 1 ≤ cutAt sp wd R ∧ cutAt sp wd R ≤ wd := by
  have htl : (R.take wd).length = wd := by rw [List.length_take]; omega
  have := Wi.lastBlank_le (R.take wd) (by intro e; rw [e] at htl; simp at htl; omega)
  unfold cutAt
  split <;> omega
theorem foldF_last (sp : Bool) (wd k : Nat) (R : Bts) (h : R ≠ []) (hk : R.length ≤ k) (hl : R.length ≤ wd) : Wi.foldF sp wd k R = R := by
  cases k with
  | zero => exact absurd (List.eq_nil_of_length_eq_zero (by omega)) h
  | succ k => rw [Wi.foldF, if_neg h]; simp only; rw [if_pos (by omega)]
theorem foldF_step (sp : Bool) (wd k : Nat) (R : Bts) (hl : wd < R.length) : Wi.foldF sp wd (k + 1) R = R.take (cutAt sp wd R) ++ [10] ++ Wi.foldF sp wd k (R.drop (cutAt sp wd R)) := by
  have h : R ≠ [] := by intro e; rw [e] at hl; simp at hl
  have hm : min R.length wd = wd := by omega
  rw [Wi.foldF, if_neg h]
  simp only [hm]
  rw [if_neg (by omega)]
  rfl
theorem foldF_nil (sp : Bool) (wd k : Nat) : Wi.foldF sp wd k [] = [] := by cases k <;> rfl

def lenS : Value → Nat
  | .slice _ n _ => n
  | _ => 0
/-- Where the filter stands. -/
structure FoSt (w wr : World) (g : Nat) (b sp : Bool) (wd : Nat) (OUT : Bts) (q r : Nat) (R O : Bts) (v : Value) (k : Nat) : Prop where
  bs : Bs w (some ⟨g, q, none⟩) R
  lt : g < w.heap.size
  len : R.length = r
  own : wr.ownsRow w.heap.size 5 1 v O.length (O.map u8V)
  bel : Below w.heap.size w wr
  eq : O ++ Wi.foldF sp wd k R = OUT
  fuel : R.length ≤ k
  mv : ∀ c ∈ R, Moves b c

set_option maxRecDepth 100000 in
set_option maxHeartbeats 8000000 in
theorem folder1_any (bb bw bs : Nat) (b sp : Bool) (wd : Nat) (hw1 : 1 ≤ wd) (hw2 : wd ≤ 1099511627776) (L : Bts) (hl : L.length ≤ 4294967296) (ho : (Wi.fold sp wd L).length ≤ 4294967296) (hm : ∀ c ∈ L, Moves b c) (lv : Value) (N : Nat → Prop) (w : World) (hs : SlE w N lv L)
    (c1 : w.cell? ⟨bb, 0, none⟩ = some (.bool b)) (c2 : w.cell? ⟨bw, 0, none⟩ = some (.int .i64 wd)) (c3 : w.cell? ⟨bs, 0, none⟩ = some (.bool sp)) :
    Calls Tryz.prog 125 #[lv, .pointer (some ⟨bb, 0, none⟩), .pointer (some ⟨bw, 0, none⟩), .pointer (some ⟨bs, 0, none⟩)] w fun e w' => ∃ v, e = .returned v ∧ SlE w' (fun j => w.heap.size ≤ j) v (Wi.fold sp wd L) ∧ Below w.heap.size w w' := by
  have l1 := World.block_lt_of_cell? _ _ c1
  have l2 := World.block_lt_of_cell? _ _ c2
  have l3 := World.block_lt_of_cell? _ _ c3
  rcases hs with ⟨rfl, p, c, rfl⟩ | ⟨hne, hs⟩
  · clear c1 c2 c3 l1 l2 l3 ho hm
    go_enter Tryz.func125, Tryz.ntmps125
    go_wp2_with fail
    go_loopw [0, 6, 7, 8, 9, 10] (fun x0 x6 _x7 _x8 _x9 _x10 wr => x0 = .slice p 0 c ∧ x6 = .slice none 0 0 ∧ wr = w) (fun _ _ _ _ _ _ _ => 0)
    case atStart => exact ⟨rfl, rfl, rfl⟩
    case round =>
      obtain ⟨rfl, rfl, rfl⟩ := hrel
      go_wp2_with fail
      go_ret
      exact ⟨_, rfl, .inl ⟨rfl, _, _, rfl⟩, Below.refl _ _⟩
  rcases hs with ⟨h1, -⟩ | ⟨g, q, c, rfl, hc, hg, -, hcell⟩
  · exact absurd h1 hne
  have hst : FoSt w w g b sp wd (Wi.fold sp wd L) q L.length L [] (.slice none 0 0) L.length :=
    ⟨fun _ => ⟨g, q, rfl, hcell⟩, hg, rfl, World.ownsRow_nil _ _ _ _, Below.refl _ _, rfl, Nat.le_refl _, hm⟩
  have HST := Lib.hid hst
  have H1 := Lib.hid c1
  have H2 := Lib.hid c2
  have H3 := Lib.hid c3
  have HOUT : ∃ OUT, Wi.fold sp wd L = OUT := ⟨_, rfl⟩
  obtain ⟨OUT, hOUT⟩ := HOUT
  rw [hOUT] at HST ho
  rw [hOUT]
  generalize hr : L.length = r at *
  have HRL : Hid (0 < r) := Lib.hid (by rw [← hr]; exact List.length_pos_iff.2 hne)
  clear hst c1 c2 c3 hm hcell hOUT hr hne
  go_enter Tryz.func125, Tryz.ntmps125
  go_wp2_with fail
  go_loopw [0, 6, 7, 8, 9, 10] (fun x0 x6 _x7 _x8 _x9 _x10 wr => ∃ q r c R O k, x0 = .slice (some ⟨g, q, none⟩) r c ∧ r ≤ c ∧ r ≤ 4294967296 ∧ 0 < r ∧ Hid (FoSt w wr g b sp wd OUT q r R O x6 k)) (fun x0 _ _ _ _ _ _ => lenS x0)
  case atStart => exact ⟨q, r, c, L, [], r, rfl, hc, hl, HRL.out, HST⟩
  case round =>
    clear HST HRL hc hl
    obtain ⟨q1, r1, c1, R, O, k, rfl, hrc, hrl, hr0, HF⟩ := hrel
    obtain ⟨wo, hwo⟩ : ∃ wo, wo = wr := ⟨_, rfl⟩
    subst hwo
    have e0 : decide ((0 : Int) < (r1 : Int)) = true := by simpa using hr0
    go_wp2_with fail
    go_loopw [7, 8, 9] (fun x7 x8 _x9 wx => ∃ n : Nat, n ≤ r1 ∧ n ≤ wd ∧ x7 = .int .i64 n ∧ x8 = .int .i64 n ∧ Hid (Below wo.heap.size wo wx)) (fun _ x8 _ _ => r1 - (intOf x8).toNat)
    case atStart => exact ⟨0, by omega, by omega, rfl, rfl, Lib.hid (Below.refl _ _)⟩
    case round =>
      obtain ⟨n, hnr, hnw, rfl, rfl, hbx⟩ := hrel
      by_cases hlt : n < r1
      · have e1 : decide ((n : Int) < (r1 : Int)) = true := by simpa using hlt
        have e2 : ¬ r1 = n := by omega
        have hbe : Below w.heap.size w wr := HF.out.bel.trans (hbx.out.mono HF.out.bel.size)
        obtain ⟨w2, hwx⟩ : ∃ w2, wr.alloc (.cells #[.int .i64 (n : Int)] 237) = w2 := ⟨_, rfl⟩
        have hb2 : Below wr.heap.size wr w2 := by rw [← hwx]; exact (Below.refl _ _).alloc (Nat.le_refl _) _
        have hblk : Blk w2 wr.heap.size #[.int .i64 (n : Int)] 237 := by rw [← hwx]; exact Blk.new _ _ _
        have hbe2 := hbe.trans (hb2.mono hbe.size)
        obtain ⟨ch, hch⟩ : ∃ ch, R.getD n 0 = ch := ⟨_, rfl⟩
        have hRl := HF.out.len
        have a0 : w2.cell? ⟨g, q1 + n, none⟩ = some (.int .u8 ch.toNat) := (hbe2.cell (p := ⟨g, q1 + n, none⟩) hg).trans (by rw [← hch]; exact HF.out.bs.at n (by omega))
        have a1 : w2.cell? ⟨bb, 0, none⟩ = some (.bool b) := (hbe2.cell (p := ⟨bb, 0, none⟩) l1).trans H1.out
        have a2 : w2.cell? ⟨bw, 0, none⟩ = some (.int .i64 wd) := (hbe2.cell (p := ⟨bw, 0, none⟩) l2).trans H2.out
        have hmv : Moves b ch := HF.out.mv ch (by rw [← hch, List.getD_eq_getElem?_getD, List.getElem?_eq_getElem (by omega)]; exact List.getElem_mem _)
        have hcol := colFold_any wr.heap.size n (by omega) ch b hmv w2.drew (Blk.drew hblk |>.cell 0 rfl) (Blk.drew hblk |>.free 0)
        have n0 : g ≠ wr.heap.size := by have := hbe.size; omega
        have n1 : bb ≠ wr.heap.size := by have := hbe.size; omega
        have n2 : bw ≠ wr.heap.size := by have := hbe.size; omega
        have HS : Hid (w2.cell? ⟨g, q1 + n, none⟩ = some (.int .u8 ch.toNat) ∧ w2.cell? ⟨bb, 0, none⟩ = some (.bool b)) := Lib.hid ⟨a0, a1⟩
        obtain ⟨w4, hw4⟩ : ∃ w4, w2.drew.setCell ⟨wr.heap.size, 0, none⟩ (.int .i64 ((n + 1 : Nat) : Int)) = w4 := ⟨_, rfl⟩
        rw [hw4] at hcol
        have hb4 : Below wr.heap.size wr w4 := by rw [← hw4]; exact (hb2.drew).setCell (Nat.le_refl _) _
        have hbe4 := hbe.trans (hb4.mono hbe.size)
        have HS4 : Hid (w4.cell? ⟨g, q1 + n, none⟩ = some (.int .u8 ch.toNat) ∧ w4.cell? ⟨bb, 0, none⟩ = some (.bool b)) :=
          Lib.hid ⟨(hbe4.cell (p := ⟨g, q1 + n, none⟩) hg).trans (by rw [← hch]; exact HF.out.bs.at n (by omega)), (hbe4.cell (p := ⟨bb, 0, none⟩) l1).trans H1.out⟩
        have s1 : w4.cell? ⟨wr.heap.size, 0, none⟩ = some (.int .i64 ((n : Int) + 1)) := by rw [← hw4]; exact ((Blk.drew hblk).set 0 _).cell 0 rfl
        have s2 : w4.cell? ⟨bw, 0, none⟩ = some (.int .i64 wd) := (hbe4.cell (p := ⟨bw, 0, none⟩) l2).trans H2.out
        have HB4 := Lib.hid hb4
        have HC := Lib.hid hcol
        have S1 := Lib.hid s1
        have S2 := Lib.hid s2
        clear hw4 hbe hb2 hblk hbe2 hch hmv hcol hb4 hbe4 s1 s2 a2
        go_wp2_with fail
        try rw [hwx]
        clear hwx
        go_region_held3 (fun w' => w'.cell? ⟨g, q1 + n, none⟩ = some (.int .u8 ch.toNat) ∧ w'.cell? ⟨bb, 0, none⟩ = some (.bool b)) (first | go_keep | with_reducible exact HS.out | with_reducible exact HS4.out)
          ((go_at_call 126; refine HC.out.mono ?_; rintro e w5 ⟨⟨v, rfl⟩, rfl⟩))
        have s1 := S1.out
        have s2 := S2.out
        have hbo : Below wo.heap.size wo w5 := hbx.out.trans (HB4.out.mono hbx.out.size)
        have HBO := Lib.hid hbo
        clear a0 a1 n0 n1 n2 HS HS4 HC HB4 S1 S2 hbo hbx
        by_cases hn : n < wd
        · have e3 : decide ((wd : Int) < (n : Int) + 1) = false := by simp; omega
          go_wp2_with fail
          go_roundw
          case rel => exact ⟨n + 1, by omega, by omega, by go_num, by go_num, HBO⟩
          case measure => simp [intOf]; omega
        · obtain rfl : n = wd := by omega
          have e3 : decide ((n : Int) < (n : Int) + 1) = true := decide_eq_true (by omega)
          have e4 : decide (0 < n) = true := decide_eq_true (by omega)
          have e5 : ((n : Int) == (r1 : Int)) = false := by simp; omega
          have s3 : w5.cell? ⟨bs, 0, none⟩ = some (.bool sp) := ((HF.out.bel.trans (HBO.out.mono HF.out.bel.size)).cell (p := ⟨bs, 0, none⟩) l3).trans H3.out
          clear hn hnw
          go_upto_if 42 with fail
          clear s1 s2 s3 e3 e4 e5
          go_cut [8, 10, 42, 43, 44, 45, 46, 47, 48, 49, 50, 51, 52, 53, 54, 55] (fun x8 _x10 _x42 _x43 _x44 _x45 _x46 _x47 _x48 _x49 _x50 _x51 _x52 _x53 _x54 _x55 wx => ∃ m : Nat, x8 = .int .i64 m ∧ Hid (m = cutAt sp n R) ∧ wx = w5)
          case first =>
            cases sp with
            | false =>
              go_wp2_with fail
              go_meet
              exact ⟨n, rfl, Lib.hid rfl, rfl⟩
            | true =>
              have htl : (R.take n).length = n := by rw [List.length_take]; omega
              have HTL := Lib.hid htl
              clear htl
              go_wp2_with fail
              go_loopw [8, 10] (fun x8 x10 wx => ∃ j : Nat, j ≤ n ∧ x8 = .int .i64 n ∧ x10 = .int .i64 ((j : Int) - 1) ∧ Hid (∀ i, j ≤ i → i < n → Wi.blank (R.getD i 0) = false) ∧ wx = w5) (fun _ x10 _ => (intOf x10 + 1).toNat)
              case atStart => exact ⟨n, Nat.le_refl _, rfl, rfl, Lib.hid fun i h1 h2 => by omega, rfl⟩
              case round =>
                obtain ⟨j, hj, rfl, rfl, hall, rfl⟩ := hrel
                cases j with
                | zero =>
                  have hfin : n = cutAt true n R := by
                    have := lastBlank_none (R.take n) fun i hi => by
                      rw [HTL.out] at hi
                      rw [getD_take _ _ _ hi]
                      exact hall.out i (Nat.zero_le _) hi
                    rw [HTL.out] at this
                    exact this.symm
                  have HFIN := Lib.hid hfin
                  clear hfin
                  go_wp2_with fail
                  go_meet
                  exact ⟨n, rfl, HFIN, rfl⟩
                | succ j =>
                  obtain ⟨ch, hch⟩ : ∃ ch, R.getD j 0 = ch := ⟨_, rfl⟩
                  have a0 : wr.cell? ⟨g, q1 + j, none⟩ = some (.int .u8 ch.toNat) := ((HF.out.bel.trans (HBO.out.mono HF.out.bel.size)).cell (p := ⟨g, q1 + j, none⟩) hg).trans (by rw [← hch]; exact HF.out.bs.at j (by omega))
                  have hbl := blank_any ch wr
                  have HCH := Lib.hid hch
                  have ej : (((j + 1 : Nat) : Int) - 1) = (j : Int) := by omega
                  rw [ej]
                  have e6 : decide ((0 : Int) ≤ (j : Int)) = true := decide_eq_true (by omega)
                  have e7 : (j : Int) < r1 := by omega
                  have e8 : j < r1 := by omega
                  clear hch ej
                  cases hb : Wi.blank ch with
                  | true =>
                    have hfin : j + 1 = cutAt true n R := by
                      refine (lastBlank_hit (R.take n) j (by rw [HTL.out]; omega) (by rw [getD_take _ _ _ (by omega), HCH.out]; exact hb) fun i h1 h2 => ?_).symm
                      rw [HTL.out] at h2
                      rw [getD_take _ _ _ h2]
                      exact hall.out i (by omega) h2
                    have HFIN := Lib.hid hfin
                    rw [hb] at hbl
                    clear hfin hb
                    go_wp2_with fail
                    refine hbl.mono ?_
                    rintro e w6 ⟨rfl, rfl⟩
                    clear hbl
                    go_wp2_with fail
                    go_meet
                    exact ⟨j + 1, by go_num, HFIN, rfl⟩
                  | false =>
                    have HALL : Hid (∀ i, j ≤ i → i < n → Wi.blank (R.getD i 0) = false) := Lib.hid fun i h1 h2 => by
                      by_cases he : i = j
                      · subst he; rw [HCH.out]; exact hb
                      · exact hall.out i (by omega) h2
                    rw [hb] at hbl
                    clear hb
                    go_wp2_with fail
                    refine hbl.mono ?_
                    rintro e w6 ⟨rfl, rfl⟩
                    clear hbl
                    go_wp2_with fail
                    go_roundw
                    case rel => exact ⟨j, by omega, rfl, rfl, HALL, by first | rfl | trivial⟩
                    case measure => simp [intOf]
          obtain ⟨m, rfl, hmc, rfl⟩ := hcut
          have hcl := cutAt_le sp n hw1 R (by rw [hRl]; exact hlt)
          rw [← hmc.out] at hcl
          obtain ⟨k1, rfl⟩ : ∃ k1, k = k1 + 1 := ⟨k - 1, by have := HF.out.fuel; omega⟩
          have heq := HF.out.eq
          rw [foldF_step sp n k1 R (by rw [hRl]; exact hlt), ← hmc.out] at heq
          have hle := congrArg List.length heq
          obtain ⟨XB, hXB⟩ : ∃ XB, R.take m = XB := ⟨_, rfl⟩
          have htk : XB.length = m := by rw [← hXB, List.length_take]; omega
          rw [hXB] at heq hle
          simp only [List.length_append, List.length_singleton] at hle
          have hbs : Bs wc (some ⟨g, q1, none⟩) XB := fun _ => ⟨g, q1, rfl, fun i hi => by
            rw [htk] at hi
            rw [← hXB, getD_take _ _ _ hi]
            exact ((HF.out.bel.trans (HBO.out.mono HF.out.bel.size)).cell (p := ⟨g, q1 + i, none⟩) hg).trans (HF.out.bs.at i (by omega))⟩
          have HXB := Lib.hid hXB
          clear hXB
          subst htk
          have hown := row_keep HF.out.own HBO.out
          have hap : O.length + XB.length ≤ 4294967296 := by omega
          have hap2 : O.length + XB.length + 1 ≤ 4294967296 := by omega
          have hsw : w.heap.size ≤ wc.heap.size := Nat.le_trans HF.out.bel.size HBO.out.size
          have HBS := Lib.hid hbs
          have HOWN := Lib.hid hown
          have HAP := Lib.hid (And.intro hap (And.intro hap2 hsw))
          have HEQ := Lib.hid heq
          have HLIT : Hid (∀ u : World, Bs (u.alloc (.cells #[.int .u8 10] 5)) (some ⟨u.heap.size, 0, none⟩) [10]) := Lib.hid fun u => bs_one u 10 5
          have f1 : (XB.length : Int) ≤ c1 := by omega
          have f2 : (XB.length : Int) ≤ r1 := by omega
          have f3 : ¬ c1 - XB.length = 0 := by omega
          have f4 : ¬ c1 = XB.length := by omega
          have f5 : ¬ c1 ≤ XB.length := by omega
          have f6 : XB.length ≤ r1 := by omega
          have f7 : XB.length ≤ c1 := by omega
          have HCL := Lib.hid (And.intro hcl hlt)
          clear hle hbs hown hap hap2 hsw heq hlt hcl
          go_wp2_with (at_builtin; first | (refine append_bytes rfl _ _ rfl w.heap.size _ O.length (O.map u8V) (by go_simp) HOWN.out (some ⟨g, q1, none⟩) XB c1 (by go_simp) HBS.out HAP.out.1 HAP.out.2.2 ?_; intro v1 u1 ho1 hg1 hv1; have HO1 := Lib.hid ho1; have HG1 := Lib.hid hg1; have HO1b := HO1; clear ho1 hg1 hv1 HOWN) | (refine append_bytes rfl _ _ rfl w.heap.size v1 (O.length + XB.length) (O.map u8V ++ XB.map u8V) (by go_simp) (row_keep HO1.out ((Below.refl _ _).alloc (Nat.le_refl _) _)) (some ⟨u1.heap.size, 0, none⟩) [10] 1 (by go_simp) (HLIT.out u1) HAP.out.2.1 (by have := HG1.out.size; have := HAP.out.2.2; simp; omega) ?_; intro v2 u2 ho2 hg2 hv2; have HO2 := Lib.hid ho2; have HG2 := Lib.hid hg2; clear ho2 hg2 hv2 HO1))
          have hb1 : Below w.heap.size wc u1 := below_grown HG1.out (row_blk HF.out.own) HAP.out.2.2
          have hb2 : Below w.heap.size (u1.alloc (.cells #[.int .u8 10] 5)) u2 := below_grown HG2.out (row_blk HO1b.out) (by have := HG1.out.size; have := HAP.out.2.2; simp; omega)
          have hbel : Below w.heap.size w u2 := (HF.out.bel.trans (HBO.out.mono HF.out.bel.size)).trans ((hb1.alloc (Nat.le_trans HAP.out.2.2 HG1.out.size) _).trans hb2)
          have hfo : FoSt w u2 g b sp n OUT (q1 + XB.length) (r1 - XB.length) (R.drop XB.length) (O ++ XB ++ [10]) v2 k1 := by
            refine ⟨fun _ => ⟨g, q1 + XB.length, rfl, fun i hi => ?_⟩, hg, by rw [List.length_drop, hRl], ?_, hbel, ?_, ?_, fun c hc => HF.out.mv c (List.mem_of_mem_drop hc)⟩
            · rw [List.length_drop] at hi
              rw [getD_drop, Nat.add_assoc]
              exact HF.out.bs.at (XB.length + i) (by omega)
            · have := HO2.out
              have e1 : (O ++ XB ++ [10] : Bts).length = O.length + XB.length + 1 := by simp; omega
              have e2 : (O ++ XB ++ [10] : Bts).map u8V = O.map u8V ++ XB.map u8V ++ ([10] : Bts).map u8V := by simp
              rw [e1, e2]
              exact this
            · rw [← HEQ.out]; simp [List.append_assoc]
            · rw [List.length_drop]; have := HF.out.fuel; have := HCL.out; omega
          have hhh := HCL.out
          exact ⟨⟨q1 + XB.length, r1 - XB.length, c1 - XB.length, R.drop XB.length, O ++ XB ++ [10], k1, rfl, by omega, by omega, by omega, Lib.hid hfo⟩, by simp only [lenS]; omega⟩
      · obtain rfl : n = r1 := by omega
        have e1 : decide ((n : Int) < (n : Int)) = false := by simp
        have hown := row_keep HF.out.own hbx.out
        have heq := HF.out.eq
        have hRl := HF.out.len
        rw [foldF_last sp wd k R (by intro e; rw [e] at hRl; simp at hRl; omega) HF.out.fuel (by omega)] at heq
        have hle := congrArg List.length heq
        simp only [List.length_append] at hle
        have hbs : Bs wr (some ⟨g, q1, none⟩) R := fun _ => ⟨g, q1, rfl, fun i hi => ((HF.out.bel.trans (hbx.out.mono HF.out.bel.size)).cell (p := ⟨g, q1 + i, none⟩) hg).trans (HF.out.bs.at i hi)⟩
        have hap : O.length + R.length ≤ 4294967296 := by omega
        have hsw : w.heap.size ≤ wr.heap.size := Nat.le_trans HF.out.bel.size hbx.out.size
        have HBS := Lib.hid hbs
        have HOWN := Lib.hid hown
        have HAP := Lib.hid (And.intro hap hsw)
        have HEQ := Lib.hid heq
        subst hRl
        clear hle hbs hown hap hsw heq
        go_wp2_with (at_builtin; refine append_bytes rfl _ _ rfl w.heap.size _ O.length (O.map u8V) (by go_simp) HOWN.out (some ⟨g, q1, none⟩) R c1 (by go_simp) HBS.out HAP.out.1 HAP.out.2 ?_; intro v1 u1 ho1 hg1 hv1; have HO1 := Lib.hid ho1; have HG1 := Lib.hid hg1; clear ho1 hg1 hv1 HOWN)
        go_ret
        refine ⟨_, rfl, ?_, (HF.out.bel.trans (hbx.out.mono HF.out.bel.size)).trans (below_grown HG1.out (row_blk HF.out.own) HAP.out.2)⟩
        rw [← HEQ.out]
        exact row_sle (xs := O ++ R) (by rw [List.map_append]; exact HO1.out) (by simp)

theorem Blk.noByte1 {W : World} {b : Nat} {v : Value} {t : TypeId} (h : Blk W b #[v] t) (hv : ∀ n, v ≠ .int .u8 n) (i : Nat) (n : Int) : W.cell? ⟨b, i, none⟩ ≠ some (.int .u8 n) := by
  intro e
  rw [Lib.cell_of_heap h] at e
  cases i with
  | zero => simp at e; exact hv n e
  | succ i => simp at e

/-- The cells that fold's filter reads. -/
def FoldSt (bb bw bs : Nat) (b sp : Bool) (wd : Nat) (_ : Unit) (W : World) : Prop := Blk W bb #[.bool b] 4 ∧ Blk W bw #[.int .i64 wd] 3 ∧ Blk W bs #[.bool sp] 4
theorem fold_filt {B : Nat} (bb bw bs : Nat) (b sp : Bool) (wd : Nat) (hw1 : 1 ≤ wd) (hw2 : wd ≤ 1099511627776) :
    Filt B 125 #[] #[.pointer (some ⟨bb, 0, none⟩), .pointer (some ⟨bw, 0, none⟩), .pointer (some ⟨bs, 0, none⟩)] (fun j => j = bb ∨ j = bw ∨ j = bs) (Wi.still (Wi.fold sp wd)) (FoldSt bb bw bs b sp wd) (Moves b) where
  keep := fun _ W W' S h hk hS _ => ⟨h.1.kept hk fun e => hS _ e (.inl rfl), h.2.1.kept hk fun e => hS _ e (.inr (.inl rfl)), h.2.2.kept hk fun e => hS _ e (.inr (.inr rfl))⟩
  lt := fun _ W h j hj => by
    rcases hj with rfl | rfl | rfl
    · exact h.1.lt
    · exact h.2.1.lt
    · exact h.2.2.lt
  noByte := fun _ W h j hj => by
    rcases hj with rfl | rfl | rfl
    · exact h.1.noByte1 (by intro n e; cases e)
    · exact h.2.1.noByte1 (by intro n e; cases e)
    · exact h.2.2.noByte1 (by intro n e; cases e)
  call := fun _ W lv L h hs hok hl ho => (folder1_any bb bw bs b sp wd hw1 hw2 L hl ho hok lv _ W hs (h.1.cell 0 rfl) (h.2.1.cell 0 rfl) (h.2.2.cell 0 rfl)).mono fun e w' ⟨v, he, hs', hb⟩ =>
    ⟨v, he, hs', ⟨h.1.keep hb h.1.lt, h.2.1.keep hb h.2.1.lt, h.2.2.keep hb h.2.2.lt⟩, Kept.of_below hb⟩

end Go.Proofs.YtbpcfjoebfbjmaaGreatDoor
