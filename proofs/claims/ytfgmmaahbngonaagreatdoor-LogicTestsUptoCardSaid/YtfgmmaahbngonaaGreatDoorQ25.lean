/-
  Texts of this seat put together: GM7, GM8, GM9, L14, L15.
-/
import Derived.Test.YtfgmmaahbngonaaGreatDoorQ24
import Derived.Deep.OwnRows
import Derived.WalkMore
import Derived.BigRegion
import Derived.Lib.ConvBytes
import Derived.Test.YtfgmmaahbngonaaGreatDoorQ13

/-
  The walk of longest. Condition: the states and the bytes lie in memory.
-/
namespace Go.Proofs.YtfgmmaahbngonaaGreatDoor.Rg
open Go.RowKit Go.Shelf Go.Maps

/-- What longest hands back. -/
def longVal : Option Nat → Value
  | some z => .tuple #[.int .i64 z, .bool true]
  | none => .tuple #[.int .i64 0, .bool false]

/-- A set of states, laid anew. -/
theorem run_zero (w : World) (n : Nat) (hn : n ≤ 1000000) : RunAt ((w.alloc (.cells (madeCells #[.int .i64 0] n) 3)).alloc (.cells #[.slice none 0 0, .slice (some ⟨w.heap.size, 0, none⟩) n n] 354))
    (fun b => b = w.heap.size ∨ b = w.heap.size + 1) (w.heap.size + 1) (.slice none 0 0) w.heap.size ⟨[], List.replicate n 0⟩ := by
  have hsz : (w.alloc (.cells (madeCells #[.int .i64 0] n) 3)).heap.size = w.heap.size + 1 := by simp
  have hb := Blk.new (w.alloc (.cells (madeCells #[.int .i64 0] n) 3)) #[.slice none 0 0, .slice (some ⟨w.heap.size, 0, none⟩) n n] 354
  rw [hsz] at hb
  have ho := World.ownsRow_lit (base := 0) (size := 1) (e := 3) w (madeCells #[.int .i64 0] n) n (Nat.zero_le _) (by unfold maxLen; omega) (by rw [size_madeCells]; simp)
  rw [toList_madeCells_one] at ho
  have hl : (List.replicate n 0).length = n := by simp
  refine ⟨by simpa using hb, World.ownsRow_nil _ _ _ _, ?_, .inr rfl, .inl rfl, fun b e => by simp [Value.ownBlock] at e, by omega, by simp [Value.ownBlock], by simp [Value.ownBlock]⟩
  simp only [List.length_replicate]
  have h2 := ho.alloc (.cells #[.slice none 0 0, .slice (some ⟨w.heap.size, 0, none⟩) n n] 354)
  have e : ints (List.replicate n 0) = List.replicate n (.int .i64 0) := by simp [ints]
  rw [e]
  exact h2

/-- A set of states, emptied. -/
theorem RunAt.clear {M : Nat → Prop} {w : World} {x hk : Nat} {v v' : Value} {r : Mx.Run} (h : RunAt w M x v hk r) (hv : v' = .slice none 0 0 ∨ ∃ g n c, v = .slice (some ⟨g, 0, none⟩) n c ∧ v' = .slice (some ⟨g, 0, none⟩) 0 c) :
    RunAt (w.setCell ⟨x, 0, none⟩ v') M x v' hk ⟨[], r.has⟩ ∧ Kept M w (w.setCell ⟨x, 0, none⟩ v') := by
  have hs : Kept (· = x) w (w.setCell ⟨x, 0, none⟩ v') := (Kept.refl (· = x) w).setCell (.inl rfl) _ _
  have hob : ∀ k, v'.ownBlock = some k → v.ownBlock = some k := by
    intro k e
    rcases hv with rfl | ⟨g, n, c, rfl, rfl⟩
    · simp [Value.ownBlock] at e
    · exact e
  have hown : w.ownsRow 0 3 1 v' 0 [] := by
    rcases hv with rfl | ⟨g, n, c, rfl, rfl⟩
    · exact World.ownsRow_nil _ _ _ _
    · obtain ⟨h1, ⟨h2, -⟩ | ⟨g', cap, cur, e, hg, hb, hc, hm, hs, -⟩⟩ := h.l
      · simp at h2
      · simp only [Value.slice.injEq, Option.some.injEq, Addr.mk.injEq, and_true] at e
        obtain ⟨rfl, -, rfl⟩ := e
        exact ⟨rfl, .inr ⟨g, c, cur, rfl, hg, hb, Nat.zero_le _, hm, hs, by simp⟩⟩
  refine ⟨⟨h.blk.set 0 v', own_kept hown hs fun k e e2 => h.xl (e2 ▸ hob k e), own_kept h.has hs fun k e e2 => ?_, h.mx, h.mh, fun k e => h.ml k (hob k e), h.xh, fun e => h.xl (hob _ e), fun e => h.lh (hob _ e)⟩, hs.mono fun k _ e => e ▸ h.mx⟩
  obtain rfl : hk = k := Option.some.inj e
  exact h.xh e2.symm

/-- What the loop of longest keeps. -/
structure LgIn (P : List Mx.St) (b : Rx.Bytes) (R : Option Nat) (w wr : World) (at_ : Nat) (x1 x2 : Nat) (now next : Mx.Run) (last : Option Nat) : Prop where
  eq : Hid (Mx.run P b (b.length - at_ + 1) at_ now next last = R)
  runs : ∃ M1 M2 : Nat → Prop, RunIn wr M1 x1 now ∧ RunIn wr M2 x2 next ∧ (∀ k, M1 k → ¬ M2 k) ∧ (∀ k, M1 k → w.heap.size ≤ k ∧ k < wr.heap.size) ∧ (∀ k, M2 k → w.heap.size ≤ k ∧ k < wr.heap.size)
  le : at_ ≤ b.length
  bel : Below w.heap.size w wr
  f1 : Mx.Fits P now
  f2 : Mx.Fits P next
  l1 : now.l.length ≤ P.length

/-- What the loop over a place's states keeps. -/
structure PlIn (P : List Mx.St) (b : Rx.Bytes) (A : Mx.Run × Option Nat) (w wr : World) (at_ x1 x2 rk1 i : Nat) (rv1 : Value) (now nx : Mx.Run) (last : Option Nat) : Prop where
  eq : Hid (Mx.round P b at_ (now.l.drop i) nx last = A)
  runs : ∃ M1 M2 : Nat → Prop, RunAt wr M1 x1 rv1 rk1 now ∧ RunIn wr M2 x2 nx ∧ (∀ k, M1 k → ¬ M2 k) ∧ (∀ k, M1 k → w.heap.size ≤ k ∧ k < wr.heap.size) ∧ (∀ k, M2 k → w.heap.size ≤ k ∧ k < wr.heap.size)
  bel : Below w.heap.size w wr
  fits : Mx.Fits P nx
  room : Mx.Room P (at_ + 1) nx
  le : i ≤ now.l.length

theorem PlIn.next {P : List Mx.St} {b : Rx.Bytes} {A A' : Mx.Run × Option Nat} {w wr W : World} {at_ x1 x2 rk1 i : Nat} {rv1 : Value} {now nx : Mx.Run} {l2 l3 : Option Nat} (h : PlIn P b A w wr at_ x1 x2 rk1 i rv1 now nx l2)
    (heq : Hid (Mx.round P b at_ (now.l.drop (i + 1)) nx l3 = A')) (hi : i < now.l.length) (hk : Kept (fun _ => False) wr W) : PlIn P b A' w W at_ x1 x2 rk1 (i + 1) rv1 now nx l3 := by
  obtain ⟨T1, T2, t1, ⟨v2, k2, t2⟩, td, tm1, tm2⟩ := h.runs
  exact ⟨heq, ⟨T1, T2, t1.kept hk fun _ _ h => h, ⟨v2, k2, t2.kept hk fun _ _ h => h⟩, td, fun k hk' => ⟨(tm1 k hk').1, Nat.lt_of_lt_of_le (tm1 k hk').2 hk.size⟩, fun k hk' => ⟨(tm2 k hk').1, Nat.lt_of_lt_of_le (tm2 k hk').2 hk.size⟩⟩,
    h.bel.trans (hk.below.mono h.bel.size), h.fits, h.room, hi⟩

theorem drop_nat (l : List Nat) (i : Nat) (hi : i < l.length) : l.drop i = l.getD i 0 :: l.drop (i + 1) := by
  rw [List.drop_eq_getElem_cons hi]
  simp [List.getD_eq_getElem?_getD, List.getElem?_eq_getElem hi]

/-- What was found, in its two slots. -/
def foundV (last : Option Nat) : Value := .bool last.isSome
def lastV (last : Option Nat) : Value := .int .i64 (last.getD 0 : Nat)

theorem longVal_eq (last : Option Nat) : longVal last = .tuple #[lastV last, foundV last] := by cases last <;> rfl

theorem run_step (P : List Mx.St) (b : Rx.Bytes) (at_ : Nat) (now next nx : Mx.Run) (last l2 R : Option Nat) (hn : now.l ≠ []) (hle : at_ ≤ b.length) (h : Mx.run P b (b.length - at_ + 1) at_ now next last = R) (hr : Mx.round P b at_ now.l ⟨[], next.has⟩ last = (nx, l2)) :
    (at_ = b.length → l2 = R) ∧ (at_ ≠ b.length → Mx.run P b (b.length - (at_ + 1) + 1) (at_ + 1) nx now l2 = R) := by
  rw [Mx.run, if_neg hn] at h
  simp only [hr] at h
  constructor
  · intro e
    rwa [if_pos e] at h
  · intro e
    rw [if_neg e] at h
    rwa [show b.length - at_ = b.length - (at_ + 1) + 1 by omega] at h

set_option maxHeartbeats 6400000 in
set_option maxRecDepth 100000 in
theorem longest_any (q start from_ bc : Nat) (v : Value) (L : Sts) (b : Rx.Bytes) (bp : Option Addr) (w : World) (hpg : Pg w q v start L) (hgo : Mx.Good (sts L)) (hkd : Mx.Kinds (sts L)) (hL : L.length ≤ 1000000) (hst : start < L.length)
    (hbs : Bs w bp b) (hbl : b.length ≤ 1000000000) (hfr : from_ ≤ b.length) :
    Calls Tryz.prog 182 #[.pointer (some ⟨q, 0, none⟩), .slice bp b.length bc, .int .i64 from_] w fun e w' => e = .returned (longVal (Mx.longest (sts L) start b from_)) ∧ Below w.heap.size w w' := by
  generalize hR : Mx.longest (sts L) start b from_ = R
  have HRUN : Hid (Mx.run (sts L) b (b.length - from_ + 1) from_ (Mx.put (sts L) (Mx.zero (sts L)) start from_ b.length) (Mx.zero (sts L)) none = R) := hR
  clear hR
  obtain ⟨g, c, rfl, hqg, hgc⟩ := hpg.form (by omega)
  have q0 : w.cell? ⟨q, 0, none⟩ = some (.slice (some ⟨g, 0, none⟩) L.length c) := hpg.blk.cell 0 rfl
  have q1 : w.cell? ⟨q, 1, none⟩ = some (.int .i64 start) := hpg.blk.cell 1 rfl
  have r0 : ∀ x y, ((w.alloc x).alloc y).cell? ⟨q, 0, none⟩ = some (.slice (some ⟨g, 0, none⟩) L.length c) := fun x y => ((hpg.blk.alloc x).alloc y).cell 0 rfl
  have r1 : ∀ x y z u, ((((w.alloc x).alloc y).alloc z).alloc u).cell? ⟨q, 1, none⟩ = some (.int .i64 start) := fun x y z u => ((((hpg.blk.alloc x).alloc y).alloc z).alloc u).cell 1 rfl
  have HPG := Lib.hid hpg
  have HGO := Lib.hid hgo
  have HBS := Lib.hid hbs
  have HKD := Lib.hid hkd
  clear hpg hgo hbs hkd
  obtain ⟨i0, hi, hz0, hz1, hz2⟩ := info_parts info_int
  go_enter Tryz.func182, Tryz.ntmps182
  go_wp2_with fail
  go_step3
  go_wp2_with (refine wpList_make_row _ rfl _ _ 41 rfl 3 i0 (.int .i64 0) Tryz.underlying41 hi hz0 hz1 rfl .i64 .i64 L.length rfl rfl (by rw [hz2]; omega) (by omega) ?_)
  have hA := run_zero w L.length hL
  have hs2 : ((w.alloc (.cells (madeCells #[.int .i64 0] L.length) 3)).alloc (.cells #[.slice none 0 0, .slice (some ⟨w.heap.size, 0, none⟩) L.length L.length] 354)).heap.size = w.heap.size + 1 + 1 := by simp
  have hB := run_zero ((w.alloc (.cells (madeCells #[.int .i64 0] L.length) 3)).alloc (.cells #[.slice none 0 0, .slice (some ⟨w.heap.size, 0, none⟩) L.length L.length] 354)) L.length hL
  rw [hs2] at hB
  have hA4 := hA.kept (S := fun _ => False) (((Kept.refl _ _).alloc (.cells (madeCells #[.int .i64 0] L.length) 3)).alloc (.cells #[.slice none 0 0, .slice (some ⟨w.heap.size + 1 + 1, 0, none⟩) L.length L.length] 354)) (fun _ _ h => h)
  have hk4 : Kept (fun _ => False) w ((((w.alloc (.cells (madeCells #[.int .i64 0] L.length) 3)).alloc (.cells #[.slice none 0 0, .slice (some ⟨w.heap.size, 0, none⟩) L.length L.length] 354)).alloc (.cells (madeCells #[.int .i64 0] L.length) 3)).alloc (.cells #[.slice none 0 0, .slice (some ⟨w.heap.size + 1 + 1, 0, none⟩) L.length L.length] 354)) := ((((Kept.refl _ w).alloc _).alloc _).alloc _).alloc _
  have hs4 : ((((w.alloc (.cells (madeCells #[.int .i64 0] L.length) 3)).alloc (.cells #[.slice none 0 0, .slice (some ⟨w.heap.size, 0, none⟩) L.length L.length] 354)).alloc (.cells (madeCells #[.int .i64 0] L.length) 3)).alloc (.cells #[.slice none 0 0, .slice (some ⟨w.heap.size + 1 + 1, 0, none⟩) L.length L.length] 354)).heap.size = w.heap.size + 4 := by simp
  clear r0 r1 hs2 hA
  generalize ((((w.alloc (.cells (madeCells #[.int .i64 0] L.length) 3)).alloc (.cells #[.slice none 0 0, .slice (some ⟨w.heap.size, 0, none⟩) L.length L.length] 354)).alloc (.cells (madeCells #[.int .i64 0] L.length) 3)).alloc (.cells #[.slice none 0 0, .slice (some ⟨w.heap.size + 1 + 1, 0, none⟩) L.length L.length] 354)) = w4 at *
  have hqw := HPG.out.blk.lt
  have hgw := (HPG.out.own.lt g rfl).2
  have hpg4 := HPG.out.kept hk4 fun b hb => hb.elim
  have hz : (⟨[], List.replicate L.length 0⟩ : Mx.Run) = Mx.zero (sts L) := by simp [Mx.zero, sts_len]
  rw [hz] at hA4 hB
  have hput := put_any q (w.heap.size + 1) start from_ b.length _ start L _ (Mx.zero (sts L)) w4 hpg4 HGO.out hL hst ⟨_, _, hA4⟩ (by
    rintro k (rfl | rfl)
    · exact ⟨hqw, fun e => by have := Option.some.inj e; simp at this; omega, by omega⟩
    · exact ⟨by omega, fun e => by have := Option.some.inj e; simp at this; omega, by omega⟩) (Mx.Fits.zero _) (Mx.room_clear _ _ _ (Mx.Fits.zero _)) ⟨by omega, by omega⟩
  have hok := Mx.put_ok (sts L) HGO.out (Mx.zero (sts L)) start from_ b.length (by rw [sts_len]; exact hst) (Mx.Fits.zero _)
  have hro := Mx.put_room (sts L) HGO.out (Mx.zero (sts L)) start from_ b.length (by rw [sts_len]; exact hst) (Mx.Fits.zero _) (Mx.room_clear _ _ _ (Mx.Fits.zero _))
  have HFI := Lib.hid hok.2
  have HRO := Lib.hid hro
  have HB := Lib.hid hB
  have HK4 := Lib.hid hk4
  clear hA4 hB hk4 hpg4 hok hro hz
  generalize Mx.put (sts L) (Mx.zero (sts L)) start from_ b.length = now0 at *
  refine hput.mono ?_
  rintro e w5 ⟨⟨rfl, hrun5⟩, hk5⟩
  have hs5 := hk5.size
  have hb5 : Below w.heap.size w w5 := (HK4.out.trans' hk5 (fun k hk e => by
    rcases e with rfl | rfl <;> omega)).below
  obtain ⟨rv5, rk5, hra5⟩ := hrun5
  have hlg : LgIn (sts L) b R w w5 from_ (w.heap.size + 1) (w.heap.size + 1 + 1 + 1) now0 (Mx.zero (sts L)) none := by
    refine ⟨HRUN.out, ⟨_, _, ⟨_, _, hra5.lt⟩, ⟨_, _, (HB.out.kept hk5 ?_).lt⟩, ?_, ?_, ?_⟩, hfr, hb5, HFI.out, Mx.Fits.zero _, by have := HRO.out; unfold Mx.Room at this; omega⟩
    · rintro k (rfl | rfl) h
      · rcases h with h | h <;> omega
      · rcases h with h | h <;> omega
    · rintro k ⟨(h | h), -⟩ ⟨h2, -⟩
      · rcases h with rfl | rfl <;> rcases h2 with h2 | h2 <;> omega
      · rcases h2 with rfl | rfl <;> omega
    · rintro k ⟨(h | h), h3⟩
      · rcases h with rfl | rfl
        · exact ⟨Nat.le_refl _, h3⟩
        · exact ⟨by omega, h3⟩
      · exact ⟨by omega, h3⟩
    · rintro k ⟨h, h3⟩
      rcases h with rfl | rfl
      · exact ⟨by omega, h3⟩
      · exact ⟨by omega, h3⟩
  have HLG := Lib.hid hlg
  clear hlg hra5 hb5 hk5 HB HRO HFI HK4 HRUN hput hs5 hs4 q0 q1
  go_wp2_with fail
  go_step3
  go_wp2_with fail
  have HST : Hid (∃ n : Nat, n = now0.l.length) := ⟨_, rfl⟩
  go_loopw [8, 9, 10, 11, 12] (fun x8 x9 x10 x11 x12 wr => ∃ (at_ x1 x2 : Nat) (now next : Mx.Run) (last : Option Nat), x8 = .pointer (some ⟨x1, 0, none⟩) ∧ x9 = .pointer (some ⟨x2, 0, none⟩) ∧ x10 = lastV last ∧ x11 = foundV last ∧ x12 = .int .i64 at_ ∧ LgIn (sts L) b R w wr at_ x1 x2 now next last) (fun _ _ _ _ x12 _ => b.length + 1 - (intOf x12).toNat)
  case atStart => exact ⟨from_, _, _, now0, _, none, rfl, rfl, rfl, rfl, rfl, HLG.out⟩
  case round =>
    clear HLG HST
    obtain ⟨at_, x1, x2, now, next, last, rfl, rfl, rfl, rfl, rfl, hin⟩ := hrel
    have hle := hin.le
    obtain ⟨M1, M2, ⟨rv1, rk1, h1⟩, ⟨rv2, rk2, h2⟩, hd, hm1, hm2⟩ := hin.runs
    have c1 : wr.cell? ⟨x1, 0, none⟩ = some rv1 := h1.blk.cell 0 rfl
    have c2 : wr.cell? ⟨x2, 0, none⟩ = some rv2 := h2.blk.cell 0 rfl
    have f2 := h2.blk.free 0
    have HIN := Lib.hid hin
    have H1 := Lib.hid h1
    have H2 := Lib.hid h2
    have HD := Lib.hid hd
    have HM1 := Lib.hid hm1
    have HM2 := Lib.hid hm2
    by_cases hn : now.l = []
    · have HR : Hid (last = R) := by
        have h := hin.eq.out
        unfold Hid at h
        rw [Mx.run, if_pos hn] at h
        exact h
      have hz : now.l.length = 0 := by rw [hn]; rfl
      have hown := h1.l
      clear hin h1 h2 hd hm1 hm2 hn
      rcases own_form' hown with ⟨rfl, -⟩ | ⟨g1, c1', rfl, -, -⟩
      · clear hown hz
        go_wp2_with fail
        rw [Exit.noGoto_ret]
        go_ret2
        rw [← HR.out, longVal_eq]
        exact ⟨rfl, HIN.out.bel⟩
      · rw [hz] at c1
        clear hown hz
        go_wp2_with fail
        rw [Exit.noGoto_ret]
        go_ret2
        rw [← HR.out, longVal_eq]
        exact ⟨rfl, HIN.out.bel⟩
    · obtain ⟨N, hN⟩ : ∃ N, now.l.length = N + 1 := ⟨now.l.length - 1, by have := List.length_pos_iff.2 hn; omega⟩
      have hNb : N ≤ 1000000 := by have := hin.l1; rw [sts_len] at this; omega
      have hown1 := h1.l
      have hown2 := h2.l
      rw [hN] at hown1
      obtain ⟨g1, c1', rfl⟩ := own_form1 hown1
      clear hin h1 h2 hd hm1 hm2 hown1
      go_upto_region 8 with fail
      go_cut [55, 56] (fun _ _ wx => ∃ v', RunAt wx M2 x2 v' rk2 ⟨[], next.has⟩ ∧ Kept M2 wr wx)
      case first =>
        rcases own_form' hown2 with ⟨rfl, -⟩ | ⟨g2, c2', rfl, -, hgc2⟩
        · go_wp2_with fail
          go_meet
          exact ⟨_, H2.out.clear (.inl rfl)⟩
        · go_wp2_with fail
          go_meet
          exact ⟨_, H2.out.clear (.inr ⟨g2, _, c2', rfl, rfl⟩)⟩
      case rest =>
        obtain ⟨v', h2c, hkc⟩ := hcut
        have h1c := H1.out.kept hkc fun k hk h => HD.out k hk h
        have hsz := hkc.size
        have hin : PlIn (sts L) b (Mx.round (sts L) b at_ now.l ⟨[], next.has⟩ last) w wc at_ x1 x2 rk1 0 (.slice (some ⟨g1, 0, none⟩) (N + 1) c1') now ⟨[], next.has⟩ last := by
          refine ⟨rfl, ⟨M1, M2, h1c, ⟨v', rk2, h2c⟩, HD.out, fun k hk => ⟨(HM1.out k hk).1, Nat.lt_of_lt_of_le (HM1.out k hk).2 hsz⟩, fun k hk => ⟨(HM2.out k hk).1, Nat.lt_of_lt_of_le (HM2.out k hk).2 hsz⟩⟩, ?_, HIN.out.f2.clear, Mx.room_clear _ _ _ HIN.out.f2, Nat.zero_le _⟩
          exact ((Kept.of_below (S := fun _ => False) HIN.out.bel).trans' hkc fun k hk h => by have := (HM2.out k h).1; omega).below
        have d1 : wc.cell? ⟨x1, 0, none⟩ = some (.slice (some ⟨g1, 0, none⟩) (N + 1) c1') := h1c.blk.cell 0 rfl
        have HPL := Lib.hid hin
        clear hin h2c hkc h1c c1 c2 f2 hown2
        go_wp2_with fail
        obtain ⟨A, hA⟩ : ∃ A, Mx.round (sts L) b at_ now.l ⟨[], next.has⟩ last = A := ⟨_, rfl⟩
        rw [hA] at HPL
        have HA := Lib.hid hA
        clear hA
        go_loopw [10, 11, 14, 15, 64] (fun x10 x11 _x14 _x15 x64 wx => ∃ (i : Nat) (nx : Mx.Run) (l2 : Option Nat), x10 = lastV l2 ∧ x11 = foundV l2 ∧ x64 = .int .i64 i ∧ PlIn (sts L) b A w wx at_ x1 x2 rk1 i (.slice (some ⟨g1, 0, none⟩) (N + 1) c1') now nx l2) (fun _ _ _ _ x64 _ => N + 1 - (intOf x64).toNat)
        case atStart => exact ⟨0, _, last, rfl, rfl, rfl, HPL.out⟩
        case round =>
          clear HPL d1
          obtain ⟨i, nx, l2, rfl, rfl, rfl, hpl⟩ := hrel
          have hile := hpl.le
          obtain ⟨T1, T2, t1, t2, td, tm1, tm2⟩ := hpl.runs
          by_cases hlt : i < N + 1
          · have ci : wr.cell? ⟨g1, i, none⟩ = some (.int .i64 (now.l.getD i 0)) := by
              have := World.ownsRow.cellAt (n := N + 1) (hN ▸ t1.l) i (by omega)
              rw [this, ints_get _ _ (by omega)]
            have hdrop := drop_nat now.l i (by omega)
            have hmem : now.l.getD i 0 ∈ now.l := by
              rw [List.getD_eq_getElem?_getD, List.getElem?_eq_getElem (show i < now.l.length by omega)]
              exact List.getElem_mem _
            have hfit := HIN.out.f1.2 _ hmem
            have HEQ := hpl.eq.out
            unfold Hid at HEQ
            rw [hdrop] at HEQ
            generalize now.l.getD i 0 = n at *
            have hnl : n < L.length := by rw [← sts_len]; exact hfit.1
            have hpgr := HPG.out.kept (Kept.of_below (S := fun _ => False) hpl.bel) fun b hb => hb.elim
            have r0 : wr.cell? ⟨q, 0, none⟩ = some (.slice (some ⟨g, 0, none⟩) L.length c) := hpgr.blk.cell 0 rfl
            obtain ⟨hp, hsa, hget⟩ := hpgr.at_ n hnl
            have s0 := hsa.kind
            have s1 := hsa.has
            have s2 := hsa.to_
            have s3 := hsa.or_
            have hstay := hfit.2
            have hk4 := Mx.kinds_get HKD.out n
            have hgn := (Mx.good_get HGO.out (n := n) hfit.1).1
            rw [sts_len] at hgn
            have hhas := hpgr.has _ (List.mem_of_getElem? hget)
            have HOV : Hid (∀ (last : Option Nat), ((sts L).getD n default).kind = 4 → Mx.round (sts L) b at_ (n :: now.l.drop (i + 1)) nx last = Mx.round (sts L) b at_ (now.l.drop (i + 1)) nx (some at_)) := fun last h => Mx.round_over _ _ _ _ _ _ _ h
            have HPU := Lib.hid (Mx.round_put (sts L) b at_ n (now.l.drop (i + 1)) nx l2)
            have HNO := Lib.hid (Mx.round_no (sts L) b at_ n (now.l.drop (i + 1)) nx l2)
            simp only at hhas
            generalize (sts L).getD n default = sn at *
            have HPL := Lib.hid hpl
            have HE := Lib.hid HEQ
            have i1 : (n : Int) < (L.length : Int) := by omega
            have i2 : (i : Int) < ((N + 1 : Nat) : Int) := by omega
            clear hpl t1 t2 td tm1 tm2 hdrop hmem hfit HEQ hpgr hsa hget
            by_cases h4 : sn.kind = 4
            · have HEQ2 : Hid (Mx.round (sts L) b at_ (now.l.drop (i + 1)) nx (some at_) = A) := by show _ = _; rw [← HOV.out l2 h4]; exact HE.out
              rw [h4] at s0
              clear h4 hstay hk4 hgn hhas
              go_wp2_with fail
              refine ⟨⟨i + 1, nx, some at_, rfl, rfl, by go_num, HPL.out.next HEQ2 (by omega) ((Kept.refl _ _).alloc _)⟩, ?_⟩
              show N + 1 - ((i : Int) + 1).toNat < N + 1 - (i : Int).toNat
              omega
            · have k0 : sn.kind = 0 := by
                simp [Mx.stays] at hstay
                omega
              obtain ⟨hb, rfl, hbq, hha⟩ := hhas k0
              have HPU2 := Lib.hid (HPU.out h4)
              have HNO2 := Lib.hid (HNO.out h4)
              have h0 : ¬ ((sn.kind : Nat) : Int) = 4 := by omega
              clear hstay hk4 h4 k0 hhas HPU HNO HOV
              go_upto_region 15 with fail
              go_cut [79, 80, 81, 82, 83, 84, 85, 86, 87, 88, 89, 90, 91, 92, 93] (fun _ _ _ _ _ _ _ _ _ _ _ _ _ _ s93 wx => s93 = .bool (decide (at_ < b.length) && sn.has (b.getD at_ 0)) ∧ Kept (fun _ => False) (wr.alloc (.cells #[.int .i64 sn.kind, .pointer (some ⟨hb, 1, none⟩), .int .i64 sn.to, .int .i64 sn.or] 325)) wx)
              case first =>
                have d0 := Blk.new wr #[.int .i64 sn.kind, .pointer (some ⟨hb, 1, none⟩), .int .i64 sn.to, .int .i64 sn.or] 325
                have d1 : (wr.alloc (.cells #[.int .i64 sn.kind, .pointer (some ⟨hb, 1, none⟩), .int .i64 sn.to, .int .i64 sn.or] 325)).cell? ⟨wr.heap.size, 1, none⟩ = some (.pointer (some ⟨hb, 1, none⟩)) := d0.cell 1 rfl
                by_cases hal : at_ < b.length
                · have hb2 := HBS.out.below HPL.out.bel (Nat.le_refl _)
                  obtain ⟨bb, bo, rfl, hbc⟩ := hb2 (by omega)
                  have cb := new_cell (hbc at_ hal)
                  have ch := new_cell (hha (b.getD at_ 0).toNat (by have := (b.getD at_ 0).toNat_lt; omega))
                  rw [show UInt8.ofNat (b.getD at_ 0).toNat = b.getD at_ 0 by simp] at ch
                  have HD : Hid (decide (at_ < b.length) = true) := decide_eq_true hal
                  have y1 : ((b.getD at_ 0).toNat : Int) < 256 := by have := (b.getD at_ 0).toNat_lt; omega
                  have y2 : (at_ : Int) < (b.length : Int) := by omega
                  generalize b.getD at_ 0 = y at *
                  clear hbc hha hb2
                  go_wp2_with fail
                  go_region
                  go_wp2_with fail
                  go_meet
                  exact ⟨by rw [HD.out, Bool.true_and], (Kept.refl _ _).drew⟩
                · have HD : Hid (decide (at_ < b.length) = false) := decide_eq_false hal
                  go_wp2_with fail
                  go_region
                  go_wp2_with fail
                  go_meet
                  exact ⟨by rw [HD.out, Bool.false_and], (Kept.refl _ _).drew⟩
              case rest =>
                obtain ⟨rfl, hkw⟩ := hcut
                have hk0 : Kept (fun _ => False) wr wc := ((Kept.refl _ wr).alloc _).trans hkw
                have e2 : wc.cell? ⟨wr.heap.size, 2, none⟩ = some (.int .i64 sn.to) := ((Blk.new wr #[.int .i64 sn.kind, .pointer (some ⟨hb, 1, none⟩), .int .i64 sn.to, .int .i64 sn.or] 325).kept hkw id).cell 2 rfl
                have HK0 := Lib.hid hk0
                clear hkw hk0 ci r0 s0 s1 s2 s3 hha
                cases hon : decide (at_ < b.length) && sn.has (b.getD at_ 0) with
                | false =>
                  have HEQ2 : Hid (Mx.round (sts L) b at_ (now.l.drop (i + 1)) nx l2 = A) := by show _ = _; rw [← HNO2.out hon]; exact HE.out
                  clear hon
                  go_wp2_with fail
                  refine ⟨⟨i + 1, nx, l2, rfl, rfl, by go_num, HPL.out.next HEQ2 (by omega) HK0.out⟩, ?_⟩
                  show N + 1 - ((i : Int) + 1).toNat < N + 1 - (i : Int).toNat
                  omega
                | true =>
                  have HEQ2 : Hid (Mx.round (sts L) b at_ (now.l.drop (i + 1)) (Mx.put (sts L) nx sn.to (at_ + 1) b.length) l2 = A) := by show _ = _; rw [← HPU2.out hon]; exact HE.out
                  have hpc := HPL.out.next (l3 := l2) (A' := Mx.round (sts L) b at_ (now.l.drop (i + 1)) nx l2) rfl (by omega) HK0.out
                  obtain ⟨T1, T2, t1, t2, td, tm1, tm2⟩ := hpc.runs
                  have hpgc := HPG.out.kept (Kept.of_below (S := fun _ => False) hpc.bel) fun b hb => hb.elim
                  have hput := put_any q x2 sn.to (at_ + 1) b.length _ start L T2 nx wc hpgc HGO.out hL hgn t2 (fun k hk => ⟨by have := (tm2 k hk).1; omega, fun e => by have := Option.some.inj e; have := (tm2 k hk).1; simp at *; omega, (tm2 k hk).2⟩) hpc.fits hpc.room ⟨by omega, by omega⟩
                  have HPC := Lib.hid hpc
                  have HT1 := Lib.hid t1
                  have HTD := Lib.hid td
                  have HTM1 := Lib.hid tm1
                  have HTM2 := Lib.hid tm2
                  have HFIT := Lib.hid (Mx.put_ok (sts L) HGO.out nx sn.to (at_ + 1) b.length (by rw [sts_len]; exact hgn) hpc.fits).2
                  have HROOM := Lib.hid (Mx.put_room (sts L) HGO.out nx sn.to (at_ + 1) b.length (by rw [sts_len]; exact hgn) hpc.fits hpc.room)
                  generalize Mx.put (sts L) nx sn.to (at_ + 1) b.length = nx2 at *
                  clear hon hpc t1 t2 td tm1 tm2 hpgc
                  go_wp2_with fail
                  refine hput.mono ?_
                  rintro e w5 ⟨⟨rfl, v5, k5, hr5⟩, hk5⟩
                  have HPL5 : Hid (PlIn (sts L) b A w w5 at_ x1 x2 rk1 (i + 1) (.slice (some ⟨g1, 0, none⟩) (N + 1) c1') now nx2 l2) := by
                    have hs5 := hk5.size
                    refine ⟨HEQ2.out, ⟨T1, _, HT1.out.kept hk5 fun k hk h => HTD.out k hk h, ⟨v5, k5, hr5.lt⟩, ?_, ?_, ?_⟩, ?_, HFIT.out, HROOM.out, by omega⟩
                    · rintro k hk ⟨h | h, -⟩
                      · exact HTD.out k hk h
                      · have := (HTM1.out k hk).2; omega
                    · intro k hk
                      exact ⟨(HTM1.out k hk).1, Nat.lt_of_lt_of_le (HTM1.out k hk).2 hs5⟩
                    · rintro k ⟨h | h, h2⟩
                      · exact ⟨(HTM2.out k h).1, h2⟩
                      · exact ⟨Nat.le_trans HPC.out.bel.size h, h2⟩
                    · exact ((Kept.of_below (S := fun _ => False) HPC.out.bel).trans' hk5 fun k hk h => by have := (HTM2.out k h).1; omega).below
                  clear hr5 hk5 hput e2
                  go_wp2_with fail
                  refine ⟨⟨i + 1, nx2, l2, rfl, rfl, by go_num, HPL5.out⟩, ?_⟩
                  show N + 1 - ((i : Int) + 1).toNat < N + 1 - (i : Int).toNat
                  omega
          · obtain rfl : i = N + 1 := by omega
            have HAE : Hid ((nx, l2) = A) := by
              have h := hpl.eq.out
              unfold Hid at h
              rw [List.drop_eq_nil_of_le (by omega), Mx.round] at h
              exact h
            have HPL := Lib.hid hpl
            clear hpl t1 t2 td tm1 tm2 hile hlt
            have hstep := run_step (sts L) b at_ now next nx last l2 R hn hle HIN.out.eq.out (by rw [HA.out]; exact HAE.out.symm)
            have HST := Lib.hid hstep
            clear hstep hn
            by_cases hat : at_ = b.length
            · have HR : Hid (l2 = R) := HST.out.1 hat
              have hat2 : (((at_ : Nat) : Int) == ((b.length : Nat) : Int)) = true := by simp; omega
              clear hat
              go_wp2_with fail
              rw [Exit.noGoto_ret]
              go_ret2
              rw [← HR.out, longVal_eq]
              exact ⟨rfl, HPL.out.bel⟩
            · have HLG2 : Hid (LgIn (sts L) b R w wr (at_ + 1) x2 x1 nx now l2) := by
                obtain ⟨T1, T2, t1, t2, td, tm1, tm2⟩ := HPL.out.runs
                exact ⟨HST.out.2 hat, ⟨T2, T1, t2, ⟨_, _, t1⟩, fun k h1 h2 => td k h2 h1, tm2, tm1⟩, by omega, HPL.out.bel, HPL.out.fits, HIN.out.f1, by have := HPL.out.room; unfold Mx.Room at this; omega⟩
              have hat2 : (((at_ : Nat) : Int) == ((b.length : Nat) : Int)) = false := by simp; omega
              have hlt2 : at_ < b.length := by omega
              clear hat
              go_wp2_with fail
              refine ⟨⟨at_ + 1, x2, x1, nx, now, l2, rfl, rfl, rfl, rfl, by go_num, HLG2.out⟩, ?_⟩
              show b.length + 1 - ((at_ : Int) + 1).toNat < b.length + 1 - (at_ : Int).toNat
              omega

end Go.Proofs.YtfgmmaahbngonaaGreatDoor.Rg

/-
  The walk of Find. Condition: the states and the bytes lie in memory.
-/
namespace Go.Proofs.YtfgmmaahbngonaaGreatDoor.Rg
open Go.RowKit Go.Shelf Go.Maps

/-- What Find hands back. -/
def findVal : Option (Nat × Nat) → Value
  | some (x, y) => .tuple #[.int .i64 x, .int .i64 y, .bool true]
  | none => .tuple #[.int .i64 0, .int .i64 0, .bool false]

theorem findF_past (P : List Mx.St) (start : Nat) (b : Rx.Bytes) (f a : Nat) (h : b.length < a) : Mx.findF P start b f a = none := by
  cases f with
  | zero => rfl
  | succ f => rw [Mx.findF, if_pos h]

set_option maxHeartbeats 1600000 in
set_option maxRecDepth 100000 in
theorem Find_any (q start bc : Nat) (from_ : Int) (v : Value) (L : Sts) (b : Rx.Bytes) (bp : Option Addr) (w : World) (hpg : Pg w q v start L) (hgo : Mx.Good (sts L)) (hkd : Mx.Kinds (sts L)) (hL : L.length ≤ 1000000) (hst : start < L.length)
    (hbs : Bs w bp b) (hbl : b.length ≤ 1000000000) :
    Calls Tryz.prog 145 #[.pointer (some ⟨q, 0, none⟩), .slice bp b.length bc, .int .i64 from_] w fun e w' => e = .returned (findVal (Mx.find (sts L) start b from_.toNat)) ∧ Below w.heap.size w w' := by
  have hlong : Hid (∀ (w' : World) (a : Nat), Below w.heap.size w w' → a ≤ b.length → Calls Tryz.prog 182 #[.pointer (some ⟨q, 0, none⟩), .slice bp b.length bc, .int .i64 a] w' fun e w2 => e = .returned (longVal (Mx.longest (sts L) start b a)) ∧ Below w'.heap.size w' w2) := fun w' a hb ha =>
    longest_any q start a bc v L b bp w' (hpg.kept (Kept.of_below (S := fun _ => False) hb) fun k hk => hk.elim) hgo hkd hL hst (hbs.below hb (Nat.le_refl _)) hbl ha
  generalize hR : Mx.find (sts L) start b from_.toNat = R
  have HR := Lib.hid hR
  clear hR hpg hgo hkd hbs
  go_enter Tryz.func145, Tryz.ntmps145
  go_wp2_with fail
  go_loopw [9, 10, 11] (fun x9 _x10 _x11 wr => ∃ a f : Nat, x9 = .int .i64 a ∧ b.length < a + f ∧ Hid (Mx.findF (sts L) start b f a = R) ∧ Below w.heap.size w wr) (fun x9 _ _ _ => b.length + 1 - (intOf x9).toNat)
  case atStart => exact ⟨from_.toNat, b.length + 1, by congr 1; omega, by omega, HR.out, Below.refl _ _⟩
  case round =>
    obtain ⟨a, f, rfl, hf, hq, hbw⟩ := hrel
    by_cases hle : a ≤ b.length
    · obtain ⟨f, rfl⟩ : ∃ g, f = g + 1 := ⟨f - 1, by omega⟩
      have hcall := hlong.out wr a hbw hle
      have HQ := Lib.hid hq
      have HBW := Lib.hid hbw
      have hle2 : (a : Int) ≤ (b.length : Int) := by omega
      unfold Hid at hq
      rw [Mx.findF, if_neg (by omega)] at hq
      cases hx : Mx.longest (sts L) start b a with
      | some z =>
        rw [hx] at hcall hq
        have HQ2 : Hid (some (a, z) = R) := hq
        clear hq hx hbw HQ
        unfold longVal at hcall
        go_wp2_with fail
        refine hcall.mono ?_
        rintro e w2 ⟨rfl, hb2⟩
        go_wp2_with fail
        go_ret3
        rw [← HQ2.out]
        exact ⟨rfl, HBW.out.trans (hb2.mono HBW.out.size)⟩
      | none =>
        rw [hx] at hcall hq
        have HQ2 : Hid (Mx.findF (sts L) start b f (a + 1) = R) := hq
        clear hq hx hbw HQ
        unfold longVal at hcall
        go_wp2_with fail
        refine hcall.mono ?_
        rintro e w2 ⟨rfl, hb2⟩
        have HB2 : Hid (Below w.heap.size w w2) := HBW.out.trans (hb2.mono HBW.out.size)
        clear hb2 hcall
        go_wp2_with fail
        refine ⟨⟨a + 1, f, by go_num, by omega, HQ2, HB2.out⟩, ?_⟩
        show b.length + 1 - ((a : Int) + 1).toNat < b.length + 1 - (a : Int).toNat
        omega
    · have HQ2 : Hid (none = R) := by
        unfold Hid at hq
        rw [findF_past _ _ _ _ _ (by omega)] at hq
        exact hq
      have HBW := Lib.hid hbw
      clear hq hbw
      go_wp2_with fail
      go_ret3
      rw [← HQ2.out]
      exact ⟨rfl, HBW.out⟩

end Go.Proofs.YtfgmmaahbngonaaGreatDoor.Rg

/-
  The walks of the law's prog, finds and awake. Conditions: the texts are short; the library's variables hold what they hold.
-/
namespace Go.Proofs.YtfgmmaahbngonaaGreatDoor.Rg
open Go.RowKit Go.Shelf Go.Maps

/-- A string turned to bytes. -/
theorem conv_facts (l : Rx.Bytes) (w : World) : ∃ c w1, (convert 9 28 (.string ⟨l.toArray⟩)).run Tryz.prog w = .ok (.slice (some ⟨w.heap.size, 0, none⟩) l.length c) w1 ∧ l.length ≤ c ∧ Below w.heap.size w w1 ∧ Bs w1 (some ⟨w.heap.size, 0, none⟩) l := by
  have hsz : (⟨l.toArray⟩ : ByteArray).size = l.length := by simp [ByteArray.size]
  have h := Lib.run_convert_string_bytes (P := Tryz.prog) w 9 28 5 ⟨l.toArray⟩ Tryz.underlying9 Tryz.underlying28 Tryz.underlying5
  rw [hsz] at h
  refine ⟨_, _, h, ?_, Lib.bytesWorld_below w 5 ⟨l.toArray⟩, fun hl => ⟨_, 0, rfl, fun i hi => ?_⟩⟩
  · exact grownCap_ge _ _ _ _
  · rw [Nat.zero_add]
    exact Lib.bytesWorld_cell w 5 ⟨l.toArray⟩ i (by rw [hsz]; exact hi)

/-- An expression that is ready, whole: its states' targets are there. -/
structure Ready (w : World) (q : Nat) (n : Rx.Nd) : Prop where
  pg : ∃ v L, Pg w q v (progOf n).1 L ∧ sts L = (progOf n).2
  len : (progOf n).2.length ≤ 1000000

theorem ready_ok (n : Rx.Nd) : Mx.LayOk [⟨4, Mx.no, 0, 0⟩] (progOf n) ∧ Mx.Kinds (progOf n).2 := by
  have hg : Mx.Good [⟨4, Mx.no, 0, 0⟩] := fun s hs => by
    obtain rfl : s = ⟨4, Mx.no, 0, 0⟩ := by simpa using hs
    exact ⟨by simp, by simp⟩
  exact ⟨Mx.lay_ok n 0 _ hg (by simp), Mx.lay_kinds n 0 _ fun s hs => by
    obtain rfl : s = ⟨4, Mx.no, 0, 0⟩ := by simpa using hs
    exact Nat.le_refl _⟩

theorem Ready.kept {w w' : World} {q : Nat} {n : Rx.Nd} (h : Ready w q n) (hk : Below w.heap.size w w') : Ready w' q n := by
  obtain ⟨v, L, hpg, e⟩ := h.pg
  exact ⟨⟨v, L, hpg.kept (Kept.of_below (S := fun _ => False) hk) fun b hb => hb.elim, e⟩, h.len⟩

/-- Find, of an expression that is ready. -/
theorem find_ready (q bc : Nat) (n : Rx.Nd) (from_ : Int) (b : Rx.Bytes) (bp : Option Addr) (w : World) (h : Ready w q n) (hbs : Bs w bp b) (hbl : b.length ≤ 1000000000) :
    Calls Tryz.prog 145 #[.pointer (some ⟨q, 0, none⟩), .slice bp b.length bc, .int .i64 from_] w fun e w' => e = .returned (findVal (Mx.find (progOf n).2 (progOf n).1 b from_.toNat)) ∧ Below w.heap.size w w' := by
  obtain ⟨v, L, hpg, e⟩ := h.pg
  have hl := h.len
  obtain ⟨hok, hkd⟩ := ready_ok n
  have hlt := hok.lt
  rw [← e] at hl hkd hlt ⊢
  rw [sts_len] at hl hlt
  have hgo := hok.good
  rw [← e] at hgo
  exact Find_any q _ bc from_ v L b bp w hpg hgo hkd hl hlt hbs hbl

/-- Does an expression find what it is told to? -/
def chk (s : Rx.Bytes) (ext fold : Bool) (b : Rx.Bytes) (from_ : Nat) (x : Option (Nat × Nat)) : Bool := match Rx.read s ext fold with
  | none => false
  | some n => decide (n.size ≤ 10000) && (decide ((progOf n).2.length ≤ 1000000) && (Mx.find (progOf n).2 (progOf n).1 b from_ == x))

theorem chk1 : chk [97, 124, 97, 98] true false [120, 97, 98] 0 (some (1, 3)) = true := by decide +kernel
theorem chk2 : chk [98, 42] false false [97, 98, 98] 0 (some (0, 0)) = true := by decide +kernel
theorem chk3 : chk [98, 42] false false [97, 98, 98] 1 (some (1, 3)) = true := by decide +kernel
theorem chk4 : chk [94, 97] false false [97, 97] 1 none = true := by decide +kernel

theorem chk_some {s : Rx.Bytes} {ext fold : Bool} {b : Rx.Bytes} {from_ : Nat} {x : Option (Nat × Nat)} (h : chk s ext fold b from_ x = true) : ∃ n, Rx.read s ext fold = some n ∧ n.size ≤ 10000 ∧ (progOf n).2.length ≤ 1000000 ∧ Mx.find (progOf n).2 (progOf n).1 b from_ = x := by
  unfold chk at h
  cases hr : Rx.read s ext fold with
  | none => rw [hr] at h; cases h
  | some n =>
    rw [hr] at h
    simp only [Bool.and_eq_true, decide_eq_true_eq, beq_iff_eq] at h
    exact ⟨n, rfl, h.1, h.2.1, h.2.2⟩

end Go.Proofs.YtfgmmaahbngonaaGreatDoor.Rg

/-
  The walk of expr's found: how many bytes an expression finds. Conditions: lengths; what the library's variables hold.
-/
namespace Go.Proofs.YtfgmmaahbngonaaGreatDoor
open Go.RowKit Go.Shelf Go.Maps

/-- What found comes to: none: it is not told here. -/
def foundF (a b : Bts) : Option (Except Lg.Bad Bts) := match Rg.Rx.read ([94, 92, 40] ++ b ++ [92, 41]) false false with
  | none => some (.error (b, 20))
  | some n => if 10000 < n.size then some (.error (b, 12)) else if (Rg.progOf n).2.length ≤ 1000000 then
      some (.ok (Lib.itoa (match Rg.Mx.find (Rg.progOf n).2 (Rg.progOf n).1 a 0 with
        | some (_, y) => (y : Int)
        | none => 0)))
    else none

theorem Glo.rg {W : World} (h : Glo W) : Rg.Glo W := ⟨h.syn, h.rng, h.mx, h.tab⟩

theorem run_le (P : List Rg.Mx.St) (b : Bts) : ∀ (f at_ : Nat) (now next : Rg.Mx.Run) (last : Option Nat) (z : Nat), at_ ≤ b.length → (∀ y, last = some y → y ≤ b.length) → Rg.Mx.run P b f at_ now next last = some z → z ≤ b.length := by
  intro f
  induction f with
  | zero => intro at_ now next last z _ h2 h; exact h2 z h
  | succ f ih =>
    intro at_ now next last z h1 h2 h
    unfold Rg.Mx.run at h
    split at h
    · exact h2 z h
    · have hq : ∀ y, (Rg.Mx.round P b at_ now.l ⟨[], next.has⟩ last).2 = some y → y ≤ b.length := by
        intro y hy
        rcases Rg.Mx.round_ge P b at_ now.l ⟨[], next.has⟩ last with hr | hr
        · rw [hr] at hy; injection hy with hy; omega
        · rw [hr] at hy; exact h2 y hy
      simp only at h
      split at h
      · exact hq z h
      · exact ih _ _ _ _ _ (by omega) hq h
theorem findF_le (P : List Rg.Mx.St) (start : Nat) (b : Bts) : ∀ (f a x y : Nat), Rg.Mx.findF P start b f a = some (x, y) → y ≤ b.length := by
  intro f
  induction f with
  | zero => intro a x y h; cases h
  | succ f ih =>
    intro a x y h
    unfold Rg.Mx.findF at h
    split at h
    · cases h
    · rename_i hle
      cases hl : Rg.Mx.longest P start b a with
      | none => rw [hl] at h; exact ih _ _ _ h
      | some z =>
        rw [hl] at h
        injection h with h
        injection h with h1 h2
        subst h2
        unfold Rg.Mx.longest at hl
        exact run_le P b _ _ _ _ _ _ (by omega) (fun y hy => by cases hy) hl

set_option maxRecDepth 100000 in
set_option maxHeartbeats 4000000 in
theorem found_any (a b : Bts) (r : Except Lg.Bad Bts) (hr : foundF a b = some r) (ha : a.length ≤ 100000000) (hb : b.length ≤ 100000000) (W : World) (hg : Glo W) :
    Calls Tryz.prog 102 #[.string ⟨a.toArray⟩, .string ⟨b.toArray⟩] W fun e W' => RPost r W e W' := by
  have hp := Rg.Parse_any ([94, 92, 40] ++ b ++ [92, 41]) false false W hg.rg hg.big (by simp; omega)
  have hs : ((⟨#[94, 92, 40]⟩ : ByteArray) ++ ⟨b.toArray⟩ ++ ⟨#[92, 41]⟩) = ⟨([94, 92, 40] ++ b ++ [92, 41]).toArray⟩ := by
    apply ByteArray.ext
    simp
  unfold foundF at hr
  have g1 : ¬ 9223372036854775807 < 3 + b.length := by omega
  have g2 : ¬ 9223372036854775807 < 3 + b.length + 2 := by omega
  generalize [94, 92, 40] ++ b ++ [92, 41] = S at *
  have HG := Lib.hid hg
  clear hg hb
  cases hx : Rg.Rx.read S false false with
  | none =>
    rw [hx] at hp hr
    injection hr with hr
    subst hr
    clear hx
    go_enter Tryz.func102, Tryz.ntmps102
    go_wp2_with fail
    refine hp.mono ?_
    rintro e W1 ⟨hpp, hb1⟩
    have hpp : e = .returned (.tuple #[.pointer none, .int .i64 20]) := hpp
    subst hpp
    have HB := Lib.hid hb1
    clear hp hb1
    go_wp2_with fail
    go_ret2
    exact ⟨_, rfl, ⟨_, _, rfl, _, rfl, HB.out.size, Blk.new _ _ _⟩, HB.out.alloc HB.out.size _⟩
  | some n =>
    rw [hx] at hp hr
    simp only at hr
    unfold Rg.ParsePost at hp
    simp only at hp
    by_cases h1 : 10000 < n.size
    · rw [if_pos h1] at hr
      injection hr with hr
      subst hr
      simp only [if_pos h1] at hp
      clear hx h1
      go_enter Tryz.func102, Tryz.ntmps102
      go_wp2_with fail
      refine hp.mono ?_
      rintro e W1 ⟨rfl, hb1⟩
      have HB := Lib.hid hb1
      clear hp hb1
      go_wp2_with fail
      go_ret2
      exact ⟨_, rfl, ⟨_, _, rfl, _, rfl, HB.out.size, Blk.new _ _ _⟩, HB.out.alloc HB.out.size _⟩
    · rw [if_neg h1] at hr
      simp only [if_neg h1] at hp
      by_cases h2 : (Rg.progOf n).2.length ≤ 1000000
      · rw [if_pos h2] at hr
        injection hr with hr
        have HR := Lib.hid hr
        have H2 := Lib.hid h2
        have HA := Lib.hid ha
        have hfl : ∀ x y, Rg.Mx.find (Rg.progOf n).2 (Rg.progOf n).1 a 0 = some (x, y) → y ≤ a.length := fun x y h => findF_le _ _ _ _ _ _ _ h
        have HFL := Lib.hid hfl
        clear hx h1 hr ha h2 hfl
        go_enter Tryz.func102, Tryz.ntmps102
        go_wp2_with fail
        refine hp.mono ?_
        rintro e W1 ⟨⟨q, rfl, hre⟩, hb1⟩
        have HB := Lib.hid hb1
        have hnew := Rg.New_any _ q n W1 hre H2.out
        clear hp hb1 hre
        go_wp2_with fail
        refine hnew.mono ?_
        rintro e W2 ⟨⟨rfl, hpg⟩, hb2⟩
        have HB2 := Lib.hid (HB.out.trans (hb2.mono HB.out.size))
        obtain ⟨c1, W3, hconv, hl1, hb3, hs3⟩ := Rg.conv_facts a W2
        have hready : Rg.Ready W2 W1.heap.size n := ⟨hpg, H2.out⟩
        have hfind := Rg.find_ready W1.heap.size c1 n 0 a _ W3 (hready.kept hb3) hs3 (by have := HA.out; omega)
        have HB3 := Lib.hid (HB2.out.trans (hb3.mono HB2.out.size))
        clear hnew hpg hb2 hb3 hready hs3
        go_wp2_with fail
        refine hfind.mono ?_
        rintro e W4 ⟨rfl, hb4⟩
        have HB4 := Lib.hid (HB3.out.trans (hb4.mono HB3.out.size))
        clear hfind hb4 hconv
        have hr := HR.out
        cases hf : Rg.Mx.find (Rg.progOf n).2 (Rg.progOf n).1 a (0 : Int).toNat with
        | none =>
          have hf' : Rg.Mx.find (Rg.progOf n).2 (Rg.progOf n).1 a 0 = none := hf
          rw [hf'] at hr
          subst hr
          have hd := digits_any 0 (by decide) (by decide) W4 (HG.out.below HB4.out)
          clear hf hf' HR HFL
          unfold Rg.findVal
          go_wp2_with fail
          refine hd.mono ?_
          rintro e W5 ⟨rfl, hb5⟩
          have HB5 := Lib.hid (HB4.out.trans (hb5.mono HB4.out.size))
          clear hd hb5
          go_wp2_with fail
          go_ret2
          exact ⟨_, rfl, rfl, HB5.out⟩
        | some xy =>
          obtain ⟨x, y⟩ := xy
          have hf' : Rg.Mx.find (Rg.progOf n).2 (Rg.progOf n).1 a 0 = some (x, y) := hf
          have hy := HFL.out x y hf'
          rw [hf'] at hr
          subst hr
          have hd := digits_any (y : Int) (by omega) (by have := HA.out; omega) W4 (HG.out.below HB4.out)
          clear hf hf' HR HFL hy
          unfold Rg.findVal
          go_wp2_with fail
          refine hd.mono ?_
          rintro e W5 ⟨rfl, hb5⟩
          have HB5 := Lib.hid (HB4.out.trans (hb5.mono HB4.out.size))
          clear hd hb5
          go_wp2_with fail
          go_ret2
          exact ⟨_, rfl, rfl, HB5.out⟩
      · rw [if_neg h2] at hr
        cases hr

end Go.Proofs.YtfgmmaahbngonaaGreatDoor

/-
  The walk of expr's reckon: what an expression comes to. Conditions: lengths; what the library's variables hold; what the spec tells.
-/
namespace Go.Proofs.YtfgmmaahbngonaaGreatDoor
open Go.RowKit Go.Shelf Go.Maps

/-- A look-up among the signs. -/
theorem op_look {W : World} {m : Nat} (h : OpsAt W m) (o : Bts) (k : Nat) (hk : Lg.place opNames o = some k) (hl : o.length ≤ maxLen) : ∃ v : Value, (Instr.lookup 169 (.map (some m)) (.string ⟨o.toArray⟩) false).run Tryz.prog W = .ok v W ∧
    (match opBox k with
    | none => v = fnV (opPlain k)
    | some (g, f) => ∃ c, v = fnB g c ∧ W.cell? ⟨c, 0, none⟩ = some (.func (.func f) #[] #[])) := by
  obtain ⟨n, D, ho, ha⟩ := h
  obtain ⟨v, ps, hrun, hv⟩ := ho.lookup kStr (t := 169) Tryz.underlying169 (z := .agg #[.nilFunc]) (by kernel_rfl) (zd := .lit (.int .i64 (-1))) (zp := []) rfl (key := .string ⟨o.toArray⟩) (kl := .string o) (Go.WideMaps.keyOf_string_mk Tryz.underlying9 (by simpa [ByteArray.size] using hl))
  have hel := ha o k hk (.lit (.int .i64 (-1)))
  refine ⟨v, hrun, ?_⟩
  unfold OpEl at hel
  cases hb : opBox k with
  | none =>
    rw [hb] at hel
    simp only at hel ⊢
    rw [hel] at hv
    exact fnElem_inv hv
  | some gf =>
    obtain ⟨g, f⟩ := gf
    rw [hb] at hel
    obtain ⟨c, h1, h2⟩ := hel
    rw [h1] at hv
    exact ⟨c, fnElem_inv_box hv, h2⟩

/-- A sign, as it is called. -/
def OpC (W : World) (m : Nat) (o a b : Bts) (r : Except Lg.Bad Bts) : Prop := ∃ (g : Nat) (cap : Array Value), (Instr.lookup 169 (.map (some m)) (.string ⟨o.toArray⟩) false).run Tryz.prog W = .ok (.agg #[.func (.func g) #[] cap]) W ∧ (∀ args w, (callFunc g args).run Tryz.prog w = .ok (.enter g args) w) ∧ Calls Tryz.prog g (#[.string ⟨a.toArray⟩, .string ⟨b.toArray⟩] ++ cap) W fun e W' => RPost r W e W'

set_option maxRecDepth 100000 in
theorem op_call {W : World} {m : Nat} (h : OpsAt W m) (o a b : Bts) (r : Except Lg.Bad Bts) (hr : Lg.op foundF o a b = some r) (ha : a.length ≤ 100000000) (hb : b.length ≤ 100000000) (hg : Glo W) : OpC W m o a b r := by
  have plain : ∀ k, Lg.place opNames o = some k → opBox k = none → o.length ≤ maxLen → (∀ args w, (callFunc (opPlain k) args).run Tryz.prog w = .ok (.enter (opPlain k) args) w) → (Calls Tryz.prog (opPlain k) #[.string ⟨a.toArray⟩, .string ⟨b.toArray⟩] W fun e W' => RPost r W e W') → OpC W m o a b r := by
    intro k hk hbx hl hent hc
    obtain ⟨v, hrun, hv⟩ := op_look h o k hk hl
    rw [hbx] at hv
    simp only at hv
    subst hv
    exact ⟨_, #[], hrun, hent, hc⟩
  have boxed : ∀ k g f, Lg.place opNames o = some k → opBox k = some (g, f) → o.length ≤ maxLen → (∀ args w, (callFunc g args).run Tryz.prog w = .ok (.enter g args) w) → (∀ c, W.cell? ⟨c, 0, none⟩ = some (.func (.func f) #[] #[]) → Calls Tryz.prog g #[.string ⟨a.toArray⟩, .string ⟨b.toArray⟩, .pointer (some ⟨c, 0, none⟩)] W fun e W' => RPost r W e W') → OpC W m o a b r := by
    intro k g f hk hbx hl hent hc
    obtain ⟨v, hrun, hv⟩ := op_look h o k hk hl
    rw [hbx] at hv
    obtain ⟨c, rfl, hcell⟩ := hv
    exact ⟨_, _, hrun, hent, hc c hcell⟩
  have la : a.length ≤ 140737488351232 := by omega
  have lb : b.length ≤ 140737488351232 := by omega
  unfold Lg.op at hr
  by_cases h1 : o = [124]
  · rw [if_pos h1] at hr
    injection hr with hr
    subst hr
    subst h1
    exact plain 0 rfl rfl (by decide) (fun args w => rfl) (first_any a b la W hg)
  rw [if_neg h1] at hr
  by_cases h2 : o = [38]
  · rw [if_pos h2] at hr
    injection hr with hr
    subst hr
    subst h2
    exact plain 1 rfl rfl (by decide) (fun args w => rfl) (both_any a b la lb W hg)
  rw [if_neg h2] at hr
  by_cases h3 : o = [58]
  · rw [if_pos h3] at hr
    subst h3
    exact plain 2 rfl rfl (by decide) (fun args w => rfl) (found_any a b r hr ha hb W hg)
  rw [if_neg h3] at hr
  by_cases h4 : o = [43]
  · rw [if_pos h4] at hr
    subst h4
    exact boxed 3 _ _ rfl rfl (by decide) (fun args w => rfl) (fun c hc => wholeFn_any _ _ add_c a b r hr la lb c W hg hc)
  rw [if_neg h4] at hr
  by_cases h5 : o = [45]
  · rw [if_pos h5] at hr
    subst h5
    exact boxed 4 _ _ rfl rfl (by decide) (fun args w => rfl) (fun c hc => wholeFn_any _ _ sub_c a b r hr la lb c W hg hc)
  rw [if_neg h5] at hr
  by_cases h6 : o = [42]
  · rw [if_pos h6] at hr
    subst h6
    exact boxed 5 _ _ rfl rfl (by decide) (fun args w => rfl) (fun c hc => wholeFn_any _ _ mul_c a b r hr la lb c W hg hc)
  rw [if_neg h6] at hr
  by_cases h7 : o = [47]
  · rw [if_pos h7] at hr
    subst h7
    exact boxed 6 _ _ rfl rfl (by decide) (fun args w => rfl) (fun c hc => wholeFn_any _ _ div_c a b r hr la lb c W hg hc)
  rw [if_neg h7] at hr
  by_cases h8 : o = [37]
  · rw [if_pos h8] at hr
    subst h8
    exact boxed 7 _ _ rfl rfl (by decide) (fun args w => rfl) (fun c hc => wholeFn_any _ _ mod_c a b r hr la lb c W hg hc)
  rw [if_neg h8] at hr
  cases hp : Lg.place Lg.xnames o with
  | none => rw [hp] at hr; cases hr
  | some k =>
    rw [hp] at hr
    injection hr with hr
    subst hr
    have hk6 : k < 6 := place_lt hp
    have hall : ∀ z ∈ Lg.xnames, z.length ≤ maxLen := by decide
    exact boxed (k + 8) _ _ (place_x hp).1 rfl (hall o (List.mem_of_getElem? (place_get hp))) (fun args w => rfl) (fun c hc => cmpFn_any k hk6 a b la lb c W hg hc)

/-- The texts of a node are short. -/
def NdLen : Lg.Nd → Prop
  | .val s => s.length ≤ 100000000
  | .bin o a b => o.length ≤ 100000000 ∧ NdLen a ∧ NdLen b

set_option maxRecDepth 100000 in
set_option maxHeartbeats 1600000 in
theorem reckon_any (m : Nat) : ∀ (n : Lg.Nd) (r : Except Lg.Bad Bts), Lg.reckon foundF n = some r → ∀ (W : World) (B q : Nat), NdA W B q n → OpsAt W m → Glo W →
    Calls Tryz.prog 60 #[.pointer (some ⟨q, 0, none⟩), .map (some m)] W fun e W' => RPost r W e W' := by
  intro n
  induction n with
  | val s =>
    intro r hr W B q hn ho hg
    rw [Lg.reckon] at hr
    injection hr with hr
    subst hr
    have c0 := hn.2.cell 0 (v := .string ⟨s.toArray⟩) rfl
    have c1 := hn.2.cell 1 (v := .string ⟨#[]⟩) rfl
    clear hn ho hg
    go_enter Tryz.func60, Tryz.ntmps60
    go_wp2_with fail
    go_ret2
    exact ⟨_, rfl, rfl, Below.refl _ _⟩
  | bin o a b iha ihb =>
    intro r hr W B q hn ho hg
    obtain ⟨hone, -, qa, qb, hblk, hna, hnb⟩ := hn
    rw [Lg.reckon] at hr
    have c1 := hblk.cell 1 (v := .string ⟨o.toArray⟩) rfl
    have c2 := hblk.cell 2 (v := .pointer (some ⟨qa, 0, none⟩)) rfl
    have HBLK := Lib.hid hblk
    have e1 : (o == []) = false := by simpa using hone
    have e2 : ¬ o = [] := hone
    have HNB := Lib.hid hnb
    have HO := Lib.hid ho
    have HG := Lib.hid hg
    have IHB := Lib.hid ihb
    clear hblk ihb hnb
    cases hra : Lg.reckon foundF a with
    | none => rw [hra] at hr; cases hr
    | some ra =>
      have hca := iha ra hra W B qa hna ho hg
      rw [hra] at hr
      clear iha hna ho hg hra
      cases ra with
      | error x =>
        injection hr with hr
        subst hr
        go_enter Tryz.func60, Tryz.ntmps60
        go_wp2_with fail
        refine hca.mono ?_
        rintro e W1 ⟨v, rfl, ⟨s, ev, rfl, ⟨z, rfl, hz1, hz2⟩⟩, hb1⟩
        have HB := Lib.hid hb1
        have HZ := Lib.hid hz2
        clear hca hb1 hz2
        go_wp2_with fail
        go_ret2
        exact ⟨_, rfl, ⟨_, _, rfl, z, rfl, hz1, HZ.out⟩, HB.out⟩
      | ok u =>
        simp only at hr
        cases hrb : Lg.reckon foundF b with
        | none => rw [hrb] at hr; cases hr
        | some rb =>
          rw [hrb] at hr
          have HRB := Lib.hid hrb
          have HR := Lib.hid hr
          clear hrb hr
          go_enter Tryz.func60, Tryz.ntmps60
          go_wp2_with fail
          refine hca.mono ?_
          rintro e W1 ⟨v, rfl, rfl, hb1⟩
          have kblk := HBLK.out.keep hb1 HBLK.out.lt
          have d3 := kblk.cell 3 (v := .pointer (some ⟨qb, 0, none⟩)) rfl
          have hcb := IHB.out rb HRB.out W1 B qb (HNB.out.kept (Kept.of_below (S := fun _ => False) hb1) fun _ _ h => h) (HO.out.below hb1) (HG.out.below hb1)
          have HB := Lib.hid hb1
          clear hca hb1 kblk c1 c2
          go_wp2_with fail
          refine hcb.mono ?_
          intro e W2 hp
          obtain ⟨v, rfl, hv, hb2⟩ := hp
          have HB2 := Lib.hid (HB.out.trans (hb2.mono HB.out.size))
          clear hcb hb2 d3
          have hr := HR.out
          cases rb with
          | error x =>
            injection hr with hr
            subst hr
            obtain ⟨s, ev, rfl, ⟨z, rfl, hz1, hz2⟩⟩ := hv
            have HZ := Lib.hid hz2
            have HZ1 := Lib.hid (Nat.le_trans HB.out.size hz1)
            clear hz2 hz1
            go_wp2_with fail
            go_ret2
            exact ⟨_, rfl, ⟨_, _, rfl, z, rfl, HZ1.out, HZ.out⟩, HB2.out⟩
          | ok w =>
            simp only at hr
            have hv : v = .tuple #[.string ⟨w.toArray⟩, .nilIface] := hv
            subst hv
            by_cases hlen : u.length ≤ 100000000 ∧ w.length ≤ 100000000
            · rw [if_pos hlen] at hr
              obtain ⟨g, cap, hlook, hent, hcall⟩ := op_call (HO.out.below HB2.out) o u w r hr hlen.1 hlen.2 (HG.out.below HB2.out)
              have kblk := HBLK.out.keep HB2.out HBLK.out.lt
              have f1 := kblk.cell 1 (v := .string ⟨o.toArray⟩) rfl
              have hfield : ∀ w : World, (Instr.field 211 (.agg #[.func (.func g) #[] cap]) 0).run Tryz.prog w = .ok (.func (.func g) #[] cap) w := fun w => rfl
              clear kblk hlen
              go_wp2_with fail
              refine hcall.mono ?_
              intro e W3 hp
              obtain ⟨v, rfl, hv, hb3⟩ := hp
              have HB3 := Lib.hid (HB2.out.trans (hb3.mono HB2.out.size))
              have HS2 := Lib.hid HB2.out.size
              clear hcall hb3 hlook
              cases r with
              | error x =>
                obtain ⟨s, ev, rfl, ⟨z, rfl, hz1, hz2⟩⟩ := hv
                have HZ := Lib.hid hz2
                have HZ1 := Lib.hid (Nat.le_trans HS2.out hz1)
                clear hz2 hz1
                go_wp2_with fail
                go_ret2
                exact ⟨_, rfl, ⟨_, _, rfl, z, rfl, HZ1.out, HZ.out⟩, HB3.out⟩
              | ok s =>
                have hv : v = .tuple #[.string ⟨s.toArray⟩, .nilIface] := hv
                subst hv
                go_wp2_with fail
                go_ret2
                exact ⟨_, rfl, rfl, HB3.out⟩
            · rw [if_neg hlen] at hr
              cases hr

end Go.Proofs.YtfgmmaahbngonaaGreatDoor
