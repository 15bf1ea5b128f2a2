/-
  The walk of lay: its kinds without kids, and a row of nodes. Condition: the node lies in memory, below the states.
-/
import Derived.Test.YthdkbbkkijdhfaaGreatDoorM1
namespace Go.Proofs.YthdkbbkkijdhfaaGreatDoor
open Go.RowKit Go.Shelf Go.Maps

/-- What laying hands back and leaves. -/
def LayPost (a : Nat × List Mx.St) (q : Nat) (w : World) (st : Int) (e : Ending) (w' : World) : Prop :=
  e = .returned (.int .i64 a.1) ∧ (∃ v' L', Pg w' q v' st L' ∧ sts L' = a.2) ∧ Below q w w'

/-- lay's contract. -/
def LayC (n : Rx.Nd) (p q : Nat) (w0 : World) : Prop :=
  ∀ (w : World) (v : Value) (st : Int) (L : Sts) (tgt : Nat), Below q w0 w → Pg w q v st L → Mx.Good (sts L) → tgt < L.length → (Mx.lay n tgt (sts L)).2.length ≤ 1000000 →
    Calls Tryz.prog 35 #[.pointer (some ⟨q, 0, none⟩), .pointer (some ⟨p, 0, none⟩), .int .i64 tgt] w (LayPost (Mx.lay n tgt (sts L)) q w st)

theorem lay_empty (p q : Nat) (w0 : World) (hb : Blk w0 p (ndCells 0 noHas 0 0 (.slice none 0 0)) 87) (hpq : p < q) : LayC .empty p q w0 := by
  intro w v st L tgt hw hpg hgo hto hlen
  have c0 := (hb.keep hw hpq).cell 0 (nd_kind _ _ _ _ _)
  have e : Mx.lay .empty tgt (sts L) = (tgt, sts L) := by rw [Mx.lay]
  rw [e]
  unfold LayPost
  have HPG := Lib.hid hpg
  clear hpg e
  go_enter Tryz.func35, Tryz.ntmps35
  go_wp2_with fail
  go_ret
  exact ⟨rfl, ⟨_, _, HPG.out, rfl⟩, Below.refl _ _⟩

theorem lay_set (p q : Nat) (h : Rx.Has) (w0 : World) (hb : Blk w0 p (setCells h) 87) (hpq : p < q) : LayC (.set h) p q w0 := by
  intro w v st L tgt hw hpg hgo hto hlen
  have hb' := hb.keep hw hpq
  have c0 := hb'.cell 0 (nd_kind _ _ _ _ _)
  have e : Mx.lay (.set h) tgt (sts L) = (L.length, sts L ++ [⟨0, h, tgt, 0⟩]) := by rw [Mx.lay, sts_len]
  rw [e] at hlen ⊢
  have hadd := add_any w q v st L ⟨0, h, tgt, 0⟩ (some p) hpg (by simp [sts_len] at hlen; omega) fun _ => ⟨p, rfl, hpq, fun i hi => hb'.cell (1 + i) (nd_has _ _ _ _ _ i hi)⟩
  unfold stV at hadd
  unfold LayPost
  clear hpg e hb hb'
  go_enter Tryz.func35, Tryz.ntmps35
  go_wp2_with fail
  refine hadd.mono ?_
  rintro e w' ⟨⟨rfl, v', hpg'⟩, hbl⟩
  have HPG := Lib.hid hpg'
  clear hpg' hadd
  go_wp2_with fail
  go_ret
  exact ⟨rfl, ⟨v', _, HPG.out, sts_app _ _⟩, hbl⟩

theorem lay_beg (p q : Nat) (w0 : World) (hb : Blk w0 p (ndCells 2 noHas 0 0 (.slice none 0 0)) 87) (hpq : p < q) : LayC .beg p q w0 := by
  intro w v st L tgt hw hpg hgo hto hlen
  have hb' := hb.keep hw hpq
  have c0 := hb'.cell 0 (nd_kind _ _ _ _ _)
  have e : Mx.lay .beg tgt (sts L) = (L.length, sts L ++ [⟨2, Mx.no, tgt, 0⟩]) := by rw [Mx.lay, sts_len]
  rw [e] at hlen ⊢
  have hadd := add_any w q v st L ⟨2, Mx.no, tgt, 0⟩ none hpg (by simp [sts_len] at hlen; omega) fun h => by simp at h
  unfold stV at hadd
  unfold LayPost
  clear hpg e hb hb'
  go_enter Tryz.func35, Tryz.ntmps35
  go_wp2_with fail
  refine hadd.mono ?_
  rintro e w' ⟨⟨rfl, v', hpg'⟩, hbl⟩
  have HPG := Lib.hid hpg'
  clear hpg' hadd
  go_wp2_with fail
  go_ret
  exact ⟨rfl, ⟨v', _, HPG.out, sts_app _ _⟩, hbl⟩

theorem lay_fin (p q : Nat) (w0 : World) (hb : Blk w0 p (ndCells 3 noHas 0 0 (.slice none 0 0)) 87) (hpq : p < q) : LayC .fin p q w0 := by
  intro w v st L tgt hw hpg hgo hto hlen
  have hb' := hb.keep hw hpq
  have c0 := hb'.cell 0 (nd_kind _ _ _ _ _)
  have e : Mx.lay .fin tgt (sts L) = (L.length, sts L ++ [⟨3, Mx.no, tgt, 0⟩]) := by rw [Mx.lay, sts_len]
  rw [e] at hlen ⊢
  have hadd := add_any w q v st L ⟨3, Mx.no, tgt, 0⟩ none hpg (by simp [sts_len] at hlen; omega) fun h => by simp at h
  unfold stV at hadd
  unfold LayPost
  clear hpg e hb hb'
  go_enter Tryz.func35, Tryz.ntmps35
  go_wp2_with fail
  refine hadd.mono ?_
  rintro e w' ⟨⟨rfl, v', hpg'⟩, hbl⟩
  have HPG := Lib.hid hpg'
  clear hpg' hadd
  go_wp2_with fail
  go_ret
  exact ⟨rfl, ⟨v', _, HPG.out, sts_app _ _⟩, hbl⟩

/-! ## Lists -/

theorem drop_kid (l : List Rx.Nd) (i : Nat) (hi : i < l.length) : l.drop i = l.getD i .empty :: l.drop (i + 1) := by
  rw [List.drop_eq_getElem_cons hi]
  simp [List.getD_eq_getElem?_getD, List.getElem?_eq_getElem hi]

theorem layCat_mono (tgt : Nat) (P : List Mx.St) (hg : Mx.Good P) (ht : tgt < P.length) : ∀ (pre l : List Rx.Nd), (Mx.layCat l tgt P).2.length ≤ (Mx.layCat (pre ++ l) tgt P).2.length := by
  intro pre l
  induction pre with
  | nil => exact Nat.le_refl _
  | cons k r ih =>
    have h1 := Mx.layCat_ok (r ++ l) tgt P hg ht
    rw [List.cons_append, Mx.layCat]
    exact Nat.le_trans ih (Mx.lay_ok k _ _ h1.good h1.lt).le

set_option maxHeartbeats 3200000 in
set_option maxRecDepth 100000 in
theorem lay_cat (p q k c : Nat) (l : List Rx.Nd) (ps : List Nat) (w0 : World) (hb : Blk w0 p (ndCells 4 noHas 0 0 (.slice (some ⟨k, 0, none⟩) l.length c)) 87) (hpq : p < q) (hkq : k < q)
    (hc : l.length ≤ c ∧ l.length ≤ 1073741824) (hpl : ps.length = l.length) (hps : Ptrs w0 k ps) (hn : ∀ i, i < l.length → LayC (l.getD i .empty) (ps.getD i 0) q w0) : LayC (.cat l) p q w0 := by
  intro w v st L tgt hw hpg hgo hto hlen
  have c0 := (hb.keep hw hpq).cell 0 (nd_kind _ _ _ _ _)
  have c3 := (hb.keep hw hpq).cell 259 (nd_kids _ _ _ _ _)
  have hto' : tgt < (sts L).length := by rw [sts_len]; exact hto
  have e : Mx.lay (.cat l) tgt (sts L) = Mx.layCat l tgt (sts L) := by rw [Mx.lay]
  rw [e] at hlen ⊢
  have HOK : Hid (∀ j, Mx.LayOk (sts L) (Mx.layCat (l.drop j) tgt (sts L)) ∧ (Mx.layCat (l.drop j) tgt (sts L)).2.length ≤ 1000000) := fun j =>
    ⟨Mx.layCat_ok _ _ _ hgo hto', by
      have := layCat_mono tgt (sts L) hgo hto' (l.take j) (l.drop j)
      rw [List.take_append_drop] at this
      omega⟩
  have HPS := Lib.hid hps
  have HN := Lib.hid hn
  have HB := Lib.hid hb
  have HPG := Lib.hid hpg
  have HW := Lib.hid hw
  unfold LayPost
  clear hps hn hb hpg hw e hgo hlen
  go_enter Tryz.func35, Tryz.ntmps35
  go_wp2_with fail
  go_loopw [2, 7] (fun x2 x7 wr => ∃ (j : Nat) (v' : Value) (L' : Sts), j ≤ l.length ∧ x2 = .int .i64 (Mx.layCat (l.drop j) tgt (sts L)).1 ∧ x7 = .int .i64 ((j : Int) - 1) ∧ Pg wr q v' st L' ∧ sts L' = (Mx.layCat (l.drop j) tgt (sts L)).2 ∧ Below q w wr) (fun _ x7 _ => (intOf x7 + 1).toNat)
  case atStart => exact ⟨l.length, v, L, Nat.le_refl _, by simp [Mx.layCat], rfl, HPG.out, by simp [Mx.layCat], Below.refl _ _⟩
  case round =>
    obtain ⟨j, v', L', hj, rfl, rfl, hpg, hst, hbw⟩ := hrel
    cases j with
    | zero =>
      have HP2 := Lib.hid hpg
      have HS2 := Lib.hid hst
      have HB2 := Lib.hid hbw
      rw [List.drop_zero] at HS2 ⊢
      clear hpg hst hbw
      go_wp2_with fail
      go_ret
      exact ⟨rfl, ⟨_, _, HP2.out, HS2.out⟩, HB2.out⟩
    | succ j =>
      have hkid := drop_kid l j (by omega)
      have hok := HOK.out (j + 1)
      have hok2 := HOK.out j
      have hb2 := HB.out.keep (HW.out.trans hbw) hpq
      have cr0 : wr.cell? ⟨p, 0, none⟩ = some (.int .i64 4) := hb2.cell 0 (nd_kind _ _ _ _ _)
      have cr3 : wr.cell? ⟨p, 259, none⟩ = some (.slice (some ⟨k, 0, none⟩) l.length c) := hb2.cell 259 (nd_kids _ _ _ _ _)
      have hwr := HW.out.trans hbw
      have cq : wr.cell? ⟨k, j, none⟩ = some (.pointer (some ⟨ps.getD j 0, 0, none⟩)) := by
        have := HPS.out j (by omega)
        rw [hwr.cell (p := ⟨k, j, none⟩) hkq]
        exact this
      rw [hkid, Mx.layCat] at hok2
      have HLC : Hid (Mx.layCat (l.drop j) tgt (sts L) = Mx.lay (l.getD j .empty) (Mx.layCat (l.drop (j + 1)) tgt (sts L)).1 (Mx.layCat (l.drop (j + 1)) tgt (sts L)).2) := by
        show _ = _
        rw [hkid, Mx.layCat]
      generalize Mx.layCat (l.drop (j + 1)) tgt (sts L) = a at *
      obtain ⟨t2, P2⟩ := a
      simp only at hst hok hok2 HLC ⊢
      subst hst
      have hcall := HN.out j (by omega) wr v' st L' t2 hwr hpg hok.1.good (by have := hok.1.lt; rw [sts_len] at this; exact this) hok2.2
      unfold LayPost at hcall
      have HBW := Lib.hid hbw
      clear hok hok2 hkid hpg hb2 hwr hbw
      generalize Mx.lay (l.getD j .empty) t2 (sts L') = a2 at *
      generalize ps.getD j 0 = pj at *
      have hj1 : ((j + 1 : Nat) : Int) - 1 = (j : Int) := by omega
      rw [hj1]
      go_wp2_with fail
      refine hcall.mono ?_
      rintro e w3 ⟨rfl, ⟨v3, L3, hpg3, hst3⟩, hb3⟩
      have HP3 := Lib.hid hpg3
      have HS3 := Lib.hid hst3
      have HB3 := Lib.hid hb3
      clear hpg3 hst3 hb3 hcall
      go_wp2_with fail
      refine ⟨⟨j, v3, L3, by omega, by rw [HLC.out], by go_num, HP3.out, by rw [HLC.out]; exact HS3.out, HBW.out.trans HB3.out⟩, ?_⟩
      show ((j : Int) - 1 + 1).toNat < ((j : Int) + 1).toNat
      omega

end Go.Proofs.YthdkbbkkijdhfaaGreatDoor
