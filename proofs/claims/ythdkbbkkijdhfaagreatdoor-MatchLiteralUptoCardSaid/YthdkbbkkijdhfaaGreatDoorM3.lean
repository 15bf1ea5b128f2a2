/-
  The walk of lay: one of a list. Condition: the node lies in memory, below the states.
-/
import Derived.Test.YthdkbbkkijdhfaaGreatDoorM2
import Derived.Deep.RegionHeld3
namespace Go.Proofs.YthdkbbkkijdhfaaGreatDoor
open Go.RowKit Go.Shelf Go.Maps

theorem Pg.drew {w : World} {q : Nat} {v : Value} {st : Int} {L : Sts} (h : Pg w q v st L) : Pg w.drew q v st L := ⟨h.blk, h.own.drew, fun x hx h0 => h.has x hx h0⟩
theorem below_drew (q : Nat) (w : World) : Below q w w.drew := ⟨rfl, rfl, rfl, Nat.le_refl _, fun _ _ => rfl⟩
theorem below_drew' (q : Nat) (w w' : World) (h : Below q w.drew w') : Below q w w' := ⟨h.os, h.tape, h.output, h.size, h.block⟩

theorem layAlt_cons (k : Rx.Nd) (r : List Rx.Nd) (hr : r ≠ []) (tgt : Nat) (L : List Mx.St) :
    Mx.layAlt (k :: r) tgt L = ((Mx.lay k tgt (Mx.layAlt r tgt L).2).2.length, (Mx.lay k tgt (Mx.layAlt r tgt L).2).2 ++ [⟨1, Mx.no, (Mx.lay k tgt (Mx.layAlt r tgt L).2).1, (Mx.layAlt r tgt L).1⟩]) := by
  cases r with
  | nil => exact absurd rfl hr
  | cons k2 r =>
    rw [Mx.layAlt_two]

theorem layAlt_mono (tgt : Nat) (P : List Mx.St) (hg : Mx.Good P) (ht : tgt < P.length) : ∀ (pre l : List Rx.Nd), l ≠ [] → (Mx.layAlt l tgt P).2.length ≤ (Mx.layAlt (pre ++ l) tgt P).2.length := by
  intro pre l hl
  induction pre with
  | nil => exact Nat.le_refl _
  | cons k r ih =>
    have h1 := Mx.layAlt_ok (r ++ l) tgt P hg ht
    have h2 := Mx.lay_ok k tgt _ h1.good (Nat.lt_of_lt_of_le ht h1.le)
    rw [List.cons_append, layAlt_cons _ _ (by simp [hl])]
    have := h2.le
    simp only [List.length_append, List.length_singleton]
    omega

set_option maxHeartbeats 3200000 in
set_option maxRecDepth 100000 in
theorem lay_alt (p q k c : Nat) (l : List Rx.Nd) (ps : List Nat) (w0 : World) (hb : Blk w0 p (ndCells 5 noHas 0 0 (.slice (some ⟨k, 0, none⟩) l.length c)) 87) (hpq : p < q) (hkq : k < q) (h1 : 1 < l.length)
    (hc : l.length ≤ c ∧ l.length ≤ 1073741824) (hpl : ps.length = l.length) (hps : Ptrs w0 k ps) (hn : ∀ i, i < l.length → LayC (l.getD i .empty) (ps.getD i 0) q w0) : LayC (.alt l) p q w0 := by
  intro w v st L tgt hw hpg hgo hto hlen
  have c0 := (hb.keep hw hpq).cell 0 (nd_kind _ _ _ _ _)
  have c3 := (hb.keep hw hpq).cell 259 (nd_kids _ _ _ _ _)
  have hto' : tgt < (sts L).length := by rw [sts_len]; exact hto
  have e : Mx.lay (.alt l) tgt (sts L) = Mx.layAlt l tgt (sts L) := by rw [Mx.lay]
  rw [e] at hlen ⊢
  have HOK : Hid (∀ j, j < l.length → Mx.LayOk (sts L) (Mx.layAlt (l.drop j) tgt (sts L)) ∧ (Mx.layAlt (l.drop j) tgt (sts L)).2.length ≤ 1000000) := fun j hj =>
    ⟨Mx.layAlt_ok _ _ _ hgo hto', by
      have := layAlt_mono tgt (sts L) hgo hto' (l.take j) (l.drop j) (by intro e; have := congrArg List.length e; simp at this; omega)
      rw [List.take_append_drop] at this
      omega⟩
  have HOL := Lib.hid (Mx.LayOk.refl hgo hto')
  obtain ⟨N, hN⟩ : ∃ N, l.length = N := ⟨_, rfl⟩
  obtain ⟨m, hm⟩ : ∃ m, N = m + 2 := ⟨N - 2, by omega⟩
  have i0 : (0 : Int) ≤ (N : Int) - 1 := by omega
  have i1 : (N : Int) - 1 < (N : Int) := by omega
  have cq : w.cell? ⟨k, m + 1, none⟩ = some (.pointer (some ⟨ps.getD (m + 1) 0, 0, none⟩)) := by
    have := hps (m + 1) (by omega)
    rw [hw.cell (p := ⟨k, m + 1, none⟩) hkq]
    exact this
  have hlast : Mx.layAlt (l.drop (m + 1)) tgt (sts L) = Mx.lay (l.getD (m + 1) .empty) tgt (sts L) := by
    rw [drop_kid l (m + 1) (by omega), List.drop_eq_nil_of_le (by omega), Mx.layAlt_one]
  rw [hN] at c3 hc
  have i2 : IntKind.i64.wrap ((N : Int) - 1) = (N : Int) - 1 := by simp [IntKind.wrap, IntKind.signed, IntKind.bits]; omega
  have i4 : (1 : Int) ≤ (N : Int) := by omega
  have i5 : 1 ≤ N := by omega
  have i6 : 0 < N := by omega
  have i3 : ((N : Int) - 1).toNat = N - 1 := by omega
  have hcall := hn (m + 1) (by omega) w.drew v st L tgt (hw.trans (below_drew q w)) hpg.drew hgo hto (by rw [← hlast]; exact (HOK.out (m + 1) (by omega)).2)
  unfold LayPost at hcall
  rw [← hlast] at hcall
  have HPS := Lib.hid hps
  have HN := Lib.hid hn
  have HB := Lib.hid hb
  have HW := Lib.hid hw
  have HM := Lib.hid hm
  have HNL := Lib.hid hN
  have HGO := Lib.hid hgo
  unfold LayPost
  clear hps hn hb hpg hw e hgo hlen hlast hN h1
  generalize hA : Mx.layAlt (l.drop (m + 1)) tgt (sts L) = a at *
  have HA := Lib.hid hA
  clear hA
  generalize hpj : ps.getD (m + 1) 0 = pj at *
  clear hpj
  rw [show m + 1 = N - 1 by omega] at cq
  clear hm
  go_enter Tryz.func35, Tryz.ntmps35
  go_wp2_with fail
  go_region_held3 (fun w' => w'.cell? ⟨p, 259, none⟩ = some (.slice (some ⟨k, 0, none⟩) N c) ∧ w'.cell? ⟨k, N - 1, none⟩ = some (.pointer (some ⟨pj, 0, none⟩)))
    (first | go_keep | (exact ⟨HK3, HQ3⟩))
    ((go_at_call 35; refine hcall.mono ?_; rintro e w3 ⟨rfl, ⟨v3, L3, hpg3, hst3⟩, hb3⟩; have HK3 : w3.cell? ⟨p, 259, none⟩ = some (.slice (some ⟨k, 0, none⟩) N c) := (by rw [hb3.cell (p := ⟨p, 259, none⟩) hpq]; exact c3); have HQ3 : w3.cell? ⟨k, N - 1, none⟩ = some (.pointer (some ⟨pj, 0, none⟩)) := (by rw [hb3.cell (p := ⟨k, N - 1, none⟩) hkq]; exact cq)))
  have HP3 := Lib.hid hpg3
  have HS3 := Lib.hid hst3
  have HB3 := Lib.hid (below_drew' q w w3 hb3)
  clear hpg3 hst3 hb3 hcall cq HQ3 i3
  go_wp2_with fail
  go_loopw [8, 9] (fun x8 x9 wr => ∃ (j : Nat) (v' : Value) (L' : Sts), j + 1 ≤ N ∧ x8 = .int .i64 (Mx.layAlt (l.drop j) tgt (sts L)).1 ∧ x9 = .int .i64 ((j : Int) - 1) ∧ Pg wr q v' st L' ∧ sts L' = (Mx.layAlt (l.drop j) tgt (sts L)).2 ∧ Below q w wr) (fun _ x9 _ => (intOf x9 + 1).toNat)
  case atStart => exact ⟨m + 1, v3, L3, by have := HM.out; omega, by rw [HA.out], by have := HM.out; congr 1; omega, HP3.out, by rw [HA.out]; exact HS3.out, HB3.out⟩
  case round =>
    obtain ⟨j, v', L', hj, rfl, rfl, hpg, hst, hbw⟩ := hrel
    cases j with
    | zero =>
      have HP2 := Lib.hid hpg
      have HS2 := Lib.hid hst
      have HB2 := Lib.hid hbw
      rw [List.drop_zero] at HS2 ⊢
      clear hpg hst hbw
      go_wp2_with fail
      go_ret
      exact ⟨rfl, ⟨_, _, HP2.out, HS2.out⟩, HB2.out⟩
    | succ j =>
      have hlN := HNL.out
      have hkid := drop_kid l j (by omega)
      have hok := HOK.out (j + 1) (by omega)
      have hok2 := HOK.out j (by omega)
      have hb2 := HB.out.keep (HW.out.trans hbw) hpq
      have cr0 : wr.cell? ⟨p, 0, none⟩ = some (.int .i64 5) := hb2.cell 0 (nd_kind _ _ _ _ _)
      have cr3 : wr.cell? ⟨p, 259, none⟩ = some (.slice (some ⟨k, 0, none⟩) N c) := by have := hb2.cell 259 (nd_kids _ _ _ _ _); rw [hlN] at this; exact this
      have hwr := HW.out.trans hbw
      have cq : wr.cell? ⟨k, j, none⟩ = some (.pointer (some ⟨ps.getD j 0, 0, none⟩)) := by
        have := HPS.out j (by omega)
        rw [hwr.cell (p := ⟨k, j, none⟩) hkq]
        exact this
      have hcons := layAlt_cons (l.getD j .empty) (l.drop (j + 1)) (by intro e; have := congrArg List.length e; simp at this; omega) tgt (sts L)
      rw [← hkid] at hcons
      rw [hcons] at hok2
      have HLC := Lib.hid hcons
      clear hcons hkid
      generalize Mx.layAlt (l.drop (j + 1)) tgt (sts L) = a2 at *
      obtain ⟨t2, P2⟩ := a2
      simp only at hst hok hok2 HLC ⊢
      subst hst
      have hlen2 := hok2.2
      simp only [List.length_append, List.length_singleton] at hlen2
      have hle := hok.1.le
      rw [sts_len, sts_len] at hle
      have hcall := HN.out j (by omega) wr v' st L' tgt hwr hpg hok.1.good (by omega) (by omega)
      unfold LayPost at hcall
      have HBW := Lib.hid hbw
      clear hok hok2 hpg hb2 hwr hbw hle c0 c3 HK3
      generalize Mx.lay (l.getD j .empty) tgt (sts L') = a3 at *
      generalize ps.getD j 0 = pj2 at *
      have hj1 : ((j + 1 : Nat) : Int) - 1 = (j : Int) := by omega
      rw [hj1]
      go_wp2_with fail
      refine hcall.mono ?_
      rintro e w4 ⟨rfl, ⟨v4, L4, hpg4, hst4⟩, hb4⟩
      have hl4 : L4.length + 1 ≤ 1000000 := by rw [← sts_len, hst4]; exact hlen2
      have hadd := add_any w4 q v4 st L4 ⟨1, Mx.no, a3.1, t2⟩ none hpg4 (by omega) fun h => by simp at h
      unfold stV at hadd
      have HS4 := Lib.hid hst4
      have HB4 := Lib.hid (HBW.out.trans hb4)
      clear hpg4 hst4 hb4 hcall cq
      go_wp2_with fail
      refine hadd.mono ?_
      rintro e w5 ⟨⟨rfl, v5, hpg5⟩, hb5⟩
      have HP5 := Lib.hid hpg5
      have HB5 := Lib.hid (HB4.out.trans hb5)
      have HL4 : Hid ((L4.length : Int) = a3.2.length) := by show _ = _; rw [← HS4.out, sts_len]
      clear hpg5 hb5 hadd
      go_wp2_with fail
      refine ⟨⟨j, v5, _, by omega, by rw [HLC.out]; simp only; rw [HL4.out], by go_num, HP5.out, by rw [HLC.out, sts_app, HS4.out]; rfl, HB5.out⟩, ?_⟩
      show ((j : Int) - 1 + 1).toNat < ((j : Int) + 1).toNat
      omega

end Go.Proofs.YthdkbbkkijdhfaaGreatDoor
