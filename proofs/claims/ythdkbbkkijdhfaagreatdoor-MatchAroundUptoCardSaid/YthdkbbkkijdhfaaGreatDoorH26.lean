/-
  Texts of this seat put together: M4, M5.
-/
import Derived.Test.YthdkbbkkijdhfaaGreatDoorH25
import Derived.Laws.OwnMore
import Derived.BigRegion

/-
  The walk of repeat. Condition: the node lies in memory, below the states.
-/
namespace Go.Proofs.YthdkbbkkijdhfaaGreatDoor
open Go.RowKit Go.Shelf Go.Maps

/-- A target, set. -/
def setTo (L : Sts) (i t : Nat) : Sts := L.modify i fun x => (⟨x.1.kind, x.1.has, t, x.1.or⟩, x.2)
theorem setTo_len (L : Sts) (i t : Nat) : (setTo L i t).length = L.length := by simp [setTo]
theorem setTo_sts (L : Sts) (i t : Nat) : sts (setTo L i t) = Mx.setTo (sts L) i t := by
  unfold setTo Mx.setTo sts
  apply List.ext_getElem?
  intro j
  simp only [List.getElem?_map, List.getElem?_modify]
  split <;> cases L[j]? <;> rfl
theorem setTo_row : ∀ (L : Sts) (i t : Nat), row (setTo L i t) = (row L).set (i * 4 + 2) (.int .i64 t)
  | [], i, t => by simp [setTo, row]
  | x :: r, 0, t => by simp [setTo, row, stV]
  | x :: r, i + 1, t => by
    have ih := setTo_row r i t
    have e : (i + 1) * 4 + 2 = (i * 4 + 2) + 1 + 1 + 1 + 1 := by omega
    rw [e]
    simpa [setTo, row, stV] using ih
theorem setTo_mem {L : Sts} {i t : Nat} {x : Mx.St × Option Nat} (h : x ∈ setTo L i t) : ∃ y ∈ L, x.1.kind = y.1.kind ∧ x.1.has = y.1.has ∧ x.2 = y.2 := by
  obtain ⟨j, hj, rfl⟩ := List.mem_iff_getElem.1 h
  have hj2 : j < L.length := by simpa [setTo] using hj
  refine ⟨L[j], List.getElem_mem _, ?_⟩
  simp only [setTo, List.getElem_modify]
  split <;> exact ⟨rfl, rfl, rfl⟩

theorem Pg.setTo {w : World} {q g n c : Nat} {st : Int} {L : Sts} (h : Pg w q (.slice (some ⟨g, 0, none⟩) n c) st L) (hn : n = L.length) (i t : Nat) :
    Pg (w.setCell ⟨g, i * 4 + 2, none⟩ (.int .i64 t)) q (.slice (some ⟨g, 0, none⟩) n c) st (setTo L i t) ∧ Below q w (w.setCell ⟨g, i * 4 + 2, none⟩ (.int .i64 t)) := by
  subst hn
  have hg := (h.own.lt g rfl).1
  have hk : Kept (fun k => q + 1 ≤ k) w (w.setCell ⟨g, i * 4 + 2, none⟩ (.int .i64 t)) := (Kept.refl (fun k => q + 1 ≤ k) w).setCell (.inl hg) _ _
  refine ⟨⟨h.blk.kept hk (by omega), ?_, ?_⟩, hk.os, hk.tape, hk.output, hk.size, fun k hk' => hk.block k (by have := h.blk.lt; omega) (by omega)⟩
  · rw [setTo_len, setTo_row]
    exact (World.ownsRow.stored h.own (i * 4 + 2) _).1
  · intro x hx hx0
    obtain ⟨y, hy, e1, e2, e3⟩ := setTo_mem hx
    obtain ⟨b, e, hb, hh⟩ := h.has y hy (by rw [← e1]; exact hx0)
    exact ⟨b, by rw [e3]; exact e, hb, by rw [e2]; exact hh.kept hk (by omega)⟩

/-- A repetition as two loops behind a beginning. -/
structure RepIn (n : Rx.Nd) (m : Nat) (most : Int) (tgt : Nat) (P : List Mx.St) (S R a0 : Nat) (P0 : List Mx.St) : Prop where
  ok : Mx.LayOk P (a0, P0)
  eq : Hid (Mx.lay (.rep m most n) tgt P = Mx.times n R (Mx.splits n S a0 tgt P0).1 (Mx.splits n S a0 tgt P0).2)
  s : S = (most - m).toNat
  r : R ≤ 255

set_option maxHeartbeats 3200000 in
set_option maxRecDepth 100000 in
theorem repeat_any (p q k kq m : Nat) (most : Int) (n : Rx.Nd) (w0 : World) (hb : Blk w0 p (ndCells 6 noHas m most (.slice (some ⟨k, 0, none⟩) 1 1)) 87) (hpq : p < q) (hkq : k < q)
    (hps : Ptrs w0 k [kq]) (hm : m ≤ 255 ∧ -1 ≤ most ∧ most ≤ 255) (hn : LayC n kq q w0) (w : World) (v : Value) (st : Int) (L : Sts) (tgt : Nat) (hw : Below q w0 w) (hpg : Pg w q v st L) (hgo : Mx.Good (sts L)) (hto : tgt < L.length)
    (hlen : (Mx.lay (.rep m most n) tgt (sts L)).2.length ≤ 1000000) :
    Calls Tryz.prog 51 #[.pointer (some ⟨q, 0, none⟩), .pointer (some ⟨p, 0, none⟩), .int .i64 tgt] w (LayPost (Mx.lay (.rep m most n) tgt (sts L)) q w st) := by
  have hbw := hb.keep hw hpq
  have c1 : w.cell? ⟨p, 257, none⟩ = some (.int .i64 m) := hbw.cell 257 (nd_min _ _ _ _ _)
  have c2 : w.cell? ⟨p, 258, none⟩ = some (.int .i64 most) := hbw.cell 258 (nd_max _ _ _ _ _)
  have c3 : w.cell? ⟨p, 259, none⟩ = some (.slice (some ⟨k, 0, none⟩) 1 1) := hbw.cell 259 (nd_kids _ _ _ _ _)
  have hto' : tgt < (sts L).length := by rw [sts_len]; exact hto
  have cq : ∀ w', Below q w0 w' → w'.cell? ⟨k, 0, none⟩ = some (.pointer (some ⟨kq, 0, none⟩)) := by
    intro w' h
    rw [h.cell (p := ⟨k, 0, none⟩) hkq]
    exact hps 0 (by simp)
  have HCQ := Lib.hid cq
  have HN := Lib.hid hn
  have HB := Lib.hid hb
  have HPG := Lib.hid hpg
  have HW := Lib.hid hw
  have HGO := Lib.hid hgo
  have HLEN := Lib.hid hlen
  unfold LayPost
  clear hps hn hb hpg hw hgo hlen hbw cq
  go_enter Tryz.func51, Tryz.ntmps51
  go_wp2_with fail
  go_region
  go_upto_if 20 with fail
  go_cut [7, 8, 9] (fun s7 s8 _ wx => ∃ (S R a0 : Nat) (v0 : Value) (L0 : Sts), s7 = .int .i64 a0 ∧ s8 = .int .i64 R ∧ Pg wx q v0 st L0 ∧ Below q w wx ∧ RepIn n m most tgt (sts L) S R a0 (sts L0))
  case first =>
    by_cases hlt : most < 0
    · have hlen1 : (Mx.lay n L.length (sts L ++ [⟨1, Mx.no, 0, tgt⟩])).2.length ≤ 1000000 := by
        have h := HLEN.out
        rw [Mx.lay_rep, if_pos hlt] at h
        refine Nat.le_trans ?_ h
        rw [sts_len]
        have h1 := Mx.layOk_push HGO.out ⟨1, Mx.no, 0, tgt⟩ (Nat.succ_pos _) (Nat.lt_succ_of_lt hto')
        have h2 := Mx.lay_ok n (sts L).length _ h1.good (by simp)
        have h3 := Mx.setTo_good h2.good (sts L).length _ h2.lt
        rw [sts_len] at h2 h3
        split
        · have := (Mx.times_ok n (fun t P => Mx.lay_ok n t P) (m - 1) _ _ h3 (by rw [Mx.setTo_len]; exact h2.lt)).le
          rw [Mx.setTo_len] at this
          exact this
        · simp only [Mx.setTo_len]; exact Nat.le_refl _
      have hadd := add_any w.drew q v st L ⟨1, Mx.no, 0, tgt⟩ none HPG.out.drew (by
        have := (Mx.lay_ok n L.length (sts L ++ [⟨1, Mx.no, 0, tgt⟩]) (Mx.good_push HGO.out _ (Nat.succ_pos _) (Nat.lt_succ_of_lt hto')) (by simp [sts_len])).le
        simp [sts_len] at this
        omega) fun h => by simp at h
      unfold stV at hadd
      have HL1 := Lib.hid hlen1
      clear hlen1
      go_wp2_with fail
      refine hadd.mono ?_
      rintro e w2 ⟨⟨rfl, v2, hpg2⟩, hb2⟩
      have HP2 := Lib.hid hpg2
      have hb2' := below_drew' q w w2 hb2
      have HB2 := Lib.hid hb2'
      have hbn := HB.out.keep (HW.out.trans hb2') hpq
      have cn3 : w2.cell? ⟨p, 259, none⟩ = some (.slice (some ⟨k, 0, none⟩) 1 1) := hbn.cell 259 (nd_kids _ _ _ _ _)
      have cnk := HCQ.out w2 (HW.out.trans hb2')
      clear hpg2 hb2 hb2' hadd hbn c1 c2 c3
      go_wp2_with fail
      have hg1 : Mx.Good (sts (L ++ [((⟨1, Mx.no, 0, tgt⟩ : Mx.St), (none : Option Nat))])) := by
        rw [sts_app]
        exact Mx.good_push HGO.out _ (Nat.succ_pos _) (Nat.lt_succ_of_lt hto')
      have hcall := HN.out w2 v2 st (L ++ [((⟨1, Mx.no, 0, tgt⟩ : Mx.St), (none : Option Nat))]) L.length (HW.out.trans HB2.out) HP2.out hg1 (by simp) (by rw [sts_app]; exact HL1.out)
      unfold LayPost at hcall
      rw [show sts (L ++ [((⟨1, Mx.no, 0, tgt⟩ : Mx.St), (none : Option Nat))]) = sts L ++ [⟨1, Mx.no, 0, tgt⟩] from sts_app _ _] at hcall
      have hok2 := Mx.lay_ok n L.length (sts L ++ [⟨1, Mx.no, 0, tgt⟩]) (by rw [sts_app] at hg1; exact hg1) (by simp [sts_len])
      have HE : Hid (Mx.lay (.rep m most n) tgt (sts L) = if 0 < m then Mx.times n (m - 1) (Mx.lay n L.length (sts L ++ [⟨1, Mx.no, 0, tgt⟩])).1 (Mx.setTo (Mx.lay n L.length (sts L ++ [⟨1, Mx.no, 0, tgt⟩])).2 L.length (Mx.lay n L.length (sts L ++ [⟨1, Mx.no, 0, tgt⟩])).1) else (L.length, Mx.setTo (Mx.lay n L.length (sts L ++ [⟨1, Mx.no, 0, tgt⟩])).2 L.length (Mx.lay n L.length (sts L ++ [⟨1, Mx.no, 0, tgt⟩])).1)) := by
        show _ = _
        rw [Mx.lay_rep, if_pos hlt, sts_len]
      have hle2 := hok2.le
      simp only [List.length_append, List.length_singleton, sts_len] at hle2
      have HPRE : Hid (∃ X, Mx.setTo (Mx.lay n L.length (sts L ++ [⟨1, Mx.no, 0, tgt⟩])).2 L.length (Mx.lay n L.length (sts L ++ [⟨1, Mx.no, 0, tgt⟩])).1 = sts L ++ X) := by
        obtain ⟨X, hX⟩ := hok2.pre
        refine ⟨Mx.setTo ([⟨1, Mx.no, 0, tgt⟩] ++ X) 0 (Mx.lay n L.length (sts L ++ [⟨1, Mx.no, 0, tgt⟩])).1, ?_⟩
        have := Mx.setTo_pre (sts L) ([⟨1, Mx.no, 0, tgt⟩] ++ X) (Mx.lay n L.length (sts L ++ [⟨1, Mx.no, 0, tgt⟩])).1
        rw [sts_len] at this
        rw [← this, hX, List.append_assoc]
      have HG3 := Lib.hid (Mx.setTo_good hok2.good L.length _ hok2.lt)
      have HLT := Lib.hid hok2.lt
      clear hg1 hok2 HL1
      generalize Mx.lay n L.length (sts L ++ [⟨1, Mx.no, 0, tgt⟩]) = a at *
      refine hcall.mono ?_
      rintro e w3 ⟨rfl, ⟨v3, L3, hpg3, hst3⟩, hb3⟩
      have hl3 : L.length < L3.length := by rw [← sts_len L3, hst3]; omega
      rcases own_form' hpg3.own with ⟨-, h0⟩ | ⟨g, c3', rfl, hg, hcap⟩
      · omega
      have hb3' := HB2.out.trans hb3
      have HB3 := Lib.hid hb3'
      have HS3 := Lib.hid hst3
      have HST := Lib.hid (hpg3.setTo rfl L.length a.1)
      have hbn := HB.out.keep (HW.out.trans hb3') hpq
      have cn1 : w3.cell? ⟨p, 257, none⟩ = some (.int .i64 m) := hbn.cell 257 (nd_min _ _ _ _ _)
      have cl : w3.cell? ⟨q, 0, none⟩ = some (.slice (some ⟨g, 0, none⟩) L3.length c3') := hpg3.blk.cell 0 rfl
      obtain ⟨ov, hov⟩ : ∃ ov, (row L3)[L.length * 4 + 2]? = some ov := ⟨_, List.getElem?_eq_getElem (by rw [row_len]; omega)⟩
      have ce : w3.cell? ⟨g, L.length * 4 + 2, none⟩ = some ov := by
        rw [World.ownsRow.cellAt hpg3.own (L.length * 4 + 2) (by omega), hov]
      have fe := World.ownsRow.frozenAt hpg3.own (L.length * 4 + 2)
      have j1 : (0 : Int) ≤ (L.length : Int) := Int.natCast_nonneg _
      have j2 : (L.length : Int) < (L3.length : Int) := by omega
      clear hpg3 hst3 hb3 hb3' hcall cn3 cnk hbn hov
      go_wp2_with fail
      · go_meet
        refine ⟨0, m - 1, a.1, _, setTo L3 L.length a.1, rfl, by congr 1; omega, HST.out.1, HB3.out.trans HST.out.2, ⟨⟨?_, ?_, ?_⟩, ?_, by omega, by omega⟩⟩
        · rw [setTo_sts, HS3.out]; exact HG3.out
        · rw [setTo_sts, HS3.out, Mx.setTo_len]; exact HLT.out
        · rw [setTo_sts, HS3.out]; exact HPRE.out
        · show _ = _
          rename_i h0
          rw [HE.out, if_pos h0, setTo_sts, HS3.out, Mx.splits_zero]
      · go_meet
        rename_i h0
        refine ⟨0, 0, L.length, _, setTo L3 L.length a.1, rfl, by congr 1; omega, HST.out.1, HB3.out.trans HST.out.2, ⟨⟨?_, ?_, ?_⟩, ?_, by omega, by omega⟩⟩
        · rw [setTo_sts, HS3.out]; exact HG3.out
        · rw [setTo_sts, HS3.out, Mx.setTo_len]; show L.length < _; omega
        · rw [setTo_sts, HS3.out]; exact HPRE.out
        · show _ = _
          rw [HE.out, if_neg h0, setTo_sts, HS3.out, Mx.splits_zero, Mx.times_zero]
    · go_wp2_with fail
      go_meet
      refine ⟨(most - m).toNat, m, tgt, v, L, rfl, rfl, HPG.out.drew, below_drew q w, ⟨Mx.LayOk.refl HGO.out hto', ?_, rfl, hm.1⟩⟩
      show _ = _
      rw [Mx.lay_rep, if_neg (Int.not_lt.2 hlt)]
      rw [show most.toNat - m = (most - m).toNat by omega]
  case rest =>
    obtain ⟨S, R, a0, v0, L0, rfl, rfl, hpg0, hb0, hri⟩ := hcut
    have hbn := HB.out.keep (HW.out.trans hb0) hpq
    have d1 : wc.cell? ⟨p, 257, none⟩ = some (.int .i64 m) := hbn.cell 257 (nd_min _ _ _ _ _)
    have d2 : wc.cell? ⟨p, 258, none⟩ = some (.int .i64 most) := hbn.cell 258 (nd_max _ _ _ _ _)
    have HP0 := Lib.hid hpg0
    have HB0 := Lib.hid hb0
    have HRI := Lib.hid hri
    clear hpg0 hb0 hri hbn c1 c2 c3
    go_wp2_with fail
    have hto0 : tgt < (sts L0).length := by have := HRI.out.ok.le; simp only at this; omega
    have hfo := Mx.splits_ok n (fun t P => Mx.lay_ok n t P) S a0 tgt (sts L0) HRI.out.ok.good HRI.out.ok.lt hto0
    have HEQ := HRI.out.eq
    generalize hF : Mx.splits n S a0 tgt (sts L0) = F at HEQ hfo
    have hFl : F.2.length ≤ 1000000 := by
      have h1 := HLEN.out
      rw [HEQ.out] at h1
      have := (Mx.times_ok n (fun t P => Mx.lay_ok n t P) R F.1 F.2 hfo.good hfo.lt).le
      omega
    have HF := Lib.hid hF
    have HFO := Lib.hid hfo
    have hS := HRI.out.s
    have hR := HRI.out.r
    have hle0 := HRI.out.ok.le
    rw [sts_len, sts_len] at hle0
    clear hF hfo hto0
    go_loopw [7, 10] (fun x7 x10 wr => ∃ (s a1 : Nat) (xi : Int) (v1 : Value) (L1 : Sts), x7 = .int .i64 a1 ∧ x10 = .int .i64 xi ∧ s = (xi - m).toNat ∧ -1 ≤ xi ∧ xi ≤ 255 ∧ Pg wr q v1 st L1 ∧ Below q w wr ∧ Mx.Good (sts L1) ∧ a1 < L1.length ∧ L.length ≤ L1.length ∧ Hid (Mx.splits n s a1 tgt (sts L1) = F)) (fun _ x10 _ => (intOf x10 - m).toNat)
    case atStart => exact ⟨S, a0, most, v0, L0, rfl, rfl, hS, hm.2.1, hm.2.2, HP0.out, HB0.out, HRI.out.ok.good, by have := HRI.out.ok.lt; rw [sts_len] at this; exact this, hle0, HF⟩
    case round =>
      obtain ⟨s, a1, xi, v1, L1, rfl, rfl, hs, hx1, hx2, hpg1, hb1, hg1, hlt1, hle1, heq⟩ := hrel
      have hbn := HB.out.keep (HW.out.trans hb1) hpq
      have d1 : wr.cell? ⟨p, 257, none⟩ = some (.int .i64 m) := hbn.cell 257 (nd_min _ _ _ _ _)
      have d3 : wr.cell? ⟨p, 259, none⟩ = some (.slice (some ⟨k, 0, none⟩) 1 1) := hbn.cell 259 (nd_kids _ _ _ _ _)
      have d4 := HCQ.out wr (HW.out.trans hb1)
      have HEQ1 := Lib.hid heq
      by_cases hgt : (m : Int) < xi
      · obtain ⟨s, rfl⟩ : ∃ t, s = t + 1 := ⟨s - 1, by omega⟩
        have hlay := Mx.lay_ok n a1 (sts L1) hg1 (by rw [sts_len]; exact hlt1)
        have hgood2 := Mx.good_push hlay.good ⟨1, Mx.no, (Mx.lay n a1 (sts L1)).1, tgt⟩ (Nat.lt_succ_of_lt hlay.lt) (by have := hlay.le; rw [sts_len] at this; show tgt < _; omega)
        have hle3 := hlay.le
        rw [sts_len] at hle3
        have hlen3 : (Mx.lay n a1 (sts L1)).2.length + 1 ≤ 1000000 := by
          have h1 := HEQ1.out
          unfold Hid at h1
          rw [Mx.splits_succ] at h1
          have h2 := (Mx.splits_ok n (fun t P => Mx.lay_ok n t P) s (Mx.lay n a1 (sts L1)).2.length tgt _ hgood2 (by simp) (by simp; omega)).le
          rw [h1] at h2
          simp only [List.length_append, List.length_singleton] at h2
          omega
        have HE2 : Hid (Mx.splits n s (Mx.lay n a1 (sts L1)).2.length tgt ((Mx.lay n a1 (sts L1)).2 ++ [⟨1, Mx.no, (Mx.lay n a1 (sts L1)).1, tgt⟩]) = F) := by
          have h1 := HEQ1.out
          unfold Hid at h1
          rw [Mx.splits_succ] at h1
          exact h1
        have HG2 := Lib.hid hgood2
        have hcall := HN.out wr v1 st L1 a1 (HW.out.trans hb1) hpg1 hg1 hlt1 (by omega)
        unfold LayPost at hcall
        have HB1 := Lib.hid hb1
        clear hlay hgood2 HEQ1 heq hpg1 hg1 hb1 hbn d2
        generalize Mx.lay n a1 (sts L1) = a at *
        go_wp2_with fail
        refine hcall.mono ?_
        rintro e w2 ⟨rfl, ⟨v2, L2, hpg2, hst2⟩, hb2⟩
        have hl2 : L2.length = a.2.length := by rw [← sts_len, hst2]
        have hadd := add_any w2 q v2 st L2 ⟨1, Mx.no, a.1, tgt⟩ none hpg2 (by omega) fun h => by simp at h
        unfold stV at hadd
        have HS2 := Lib.hid hst2
        have HB2 := Lib.hid (HB1.out.trans hb2)
        clear hpg2 hst2 hb2 hcall d1 d3 d4
        go_wp2_with fail
        refine hadd.mono ?_
        rintro e w3 ⟨⟨rfl, v3, hpg3⟩, hb3⟩
        have HP3 := Lib.hid hpg3
        have HB3 := Lib.hid (HB2.out.trans hb3)
        have HSS : Hid (sts (L2 ++ [((⟨1, Mx.no, a.1, tgt⟩ : Mx.St), (none : Option Nat))]) = a.2 ++ [⟨1, Mx.no, a.1, tgt⟩]) := by show _ = _; rw [← HS2.out]; exact sts_app _ _
        clear hpg3 hb3 hadd
        go_wp2_with fail
        refine ⟨⟨s, L2.length, xi - 1, v3, _, by rw [hl2], by go_num, by omega, by omega, by omega, HP3.out, HB3.out, by rw [HSS.out]; exact HG2.out, by simp, by simp; omega, by rw [HSS.out, hl2]; exact HE2⟩, ?_⟩
        show (xi - 1 - m).toNat < (xi - m).toNat
        omega
      · obtain rfl : s = 0 := by omega
        have HA1 : Hid ((a1, sts L1) = F) := by
          have := HEQ1.out
          unfold Hid at this
          rw [Mx.splits_zero] at this
          exact this
        have HP1 := Lib.hid hpg1
        have HB1 := Lib.hid hb1
        clear hbn HEQ1 heq hpg1 hg1 hb1 d2 hs
        go_wp2_with fail
        have HG1 : Hid (Mx.Good F.2 ∧ F.1 < F.2.length) := ⟨HFO.out.good, HFO.out.lt⟩
        have hTL : (Mx.times n R F.1 F.2).2.length ≤ 1000000 := by rw [← HEQ.out]; exact HLEN.out
        have HT0 : Hid (Mx.times n (R - 0) a1 (sts L1) = Mx.times n R F.1 F.2) := by
          show _ = _
          rw [Nat.sub_zero, ← HA1.out]
        have HGA : Hid (Mx.Good (sts L1) ∧ a1 < L1.length) := by
          have h := HG1.out
          unfold Hid at h
          rw [← HA1.out] at h
          simp only [sts_len] at h
          exact h
        clear HF HFO HG1 HA1 hFl d1 d3 d4
        generalize Mx.times n R F.1 F.2 = G at *
        go_loopw [7, 73] (fun x7 x73 wr => ∃ (i a2 : Nat) (v2 : Value) (L2 : Sts), i ≤ R ∧ x7 = .int .i64 a2 ∧ x73 = .int .i64 i ∧ Pg wr q v2 st L2 ∧ Below q w wr ∧ Mx.Good (sts L2) ∧ a2 < L2.length ∧ Hid (Mx.times n (R - i) a2 (sts L2) = G)) (fun _ x73 _ => R - (intOf x73).toNat)
        case atStart => exact ⟨0, a1, v1, L1, Nat.zero_le _, rfl, rfl, HP1.out, HB1.out, HGA.out.1, HGA.out.2, HT0⟩
        case round =>
          obtain ⟨i, a2, v2, L2, hi, rfl, rfl, hpg2, hb2, hg2, hlt2, heq2⟩ := hrel
          by_cases hiR : i < R
          · have hbn := HB.out.keep (HW.out.trans hb2) hpq
            have d3 : wr.cell? ⟨p, 259, none⟩ = some (.slice (some ⟨k, 0, none⟩) 1 1) := hbn.cell 259 (nd_kids _ _ _ _ _)
            have d4 := HCQ.out wr (HW.out.trans hb2)
            obtain ⟨r, hr⟩ : ∃ r, R - i = r + 1 := ⟨R - i - 1, by omega⟩
            rw [hr, Mx.times_succ] at heq2
            have hlay := Mx.lay_ok n a2 (sts L2) hg2 (by rw [sts_len]; exact hlt2)
            have hle3 := (Mx.times_ok n (fun t P => Mx.lay_ok n t P) r _ _ hlay.good hlay.lt).le
            rw [show Mx.times n r (Mx.lay n a2 (sts L2)).1 (Mx.lay n a2 (sts L2)).2 = G from heq2] at hle3
            have hcall := HN.out wr v2 st L2 a2 (HW.out.trans hb2) hpg2 hg2 hlt2 (by omega)
            unfold LayPost at hcall
            have HE2 : Hid (Mx.times n (R - (i + 1)) (Mx.lay n a2 (sts L2)).1 (Mx.lay n a2 (sts L2)).2 = G) := by
              rw [show R - (i + 1) = r by omega]; exact heq2
            have HL := Lib.hid hlay
            have HB2 := Lib.hid hb2
            clear hlay heq2 hpg2 hg2 hb2 hbn hr hle3
            generalize Mx.lay n a2 (sts L2) = a at *
            go_wp2_with fail
            refine hcall.mono ?_
            rintro e w3 ⟨rfl, ⟨v3, L3, hpg3, hst3⟩, hb3⟩
            have HP3 := Lib.hid hpg3
            have HS3 := Lib.hid hst3
            have HB3 := Lib.hid (HB2.out.trans hb3)
            clear hpg3 hst3 hb3 hcall d3 d4
            go_wp2_with fail
            refine ⟨⟨i + 1, a.1, v3, L3, by omega, rfl, by go_num, HP3.out, HB3.out, by rw [HS3.out]; exact HL.out.good, by rw [← sts_len, HS3.out]; exact HL.out.lt, by rw [HS3.out]; exact HE2⟩, ?_⟩
            show R - ((i : Int) + 1).toNat < R - (i : Int).toNat
            omega
          · obtain rfl : i = R := by omega
            have HA2 : Hid ((a2, sts L2) = G) := by
              have := heq2
              unfold Hid at this
              rw [Nat.sub_self, Mx.times_zero] at this
              exact this
            have HP2 := Lib.hid hpg2
            have HB2 := Lib.hid hb2
            clear heq2 hpg2 hg2 hb2 hi
            go_wp2_with fail
            go_ret
            refine ⟨?_, ⟨_, _, HP2.out, ?_⟩, HB2.out⟩
            · have h1 : (Mx.lay (.rep m most n) tgt (sts L)).1 = a2 := by have := HEQ.out.trans HA2.out.symm; rw [this]
              rw [h1]
              rfl
            · have h2 : (Mx.lay (.rep m most n) tgt (sts L)).2 = sts L2 := by have := HEQ.out.trans HA2.out.symm; rw [this]
              rw [h2]

end Go.Proofs.YthdkbbkkijdhfaaGreatDoor

/-
  The walks of lay (any node) and New. Condition: the node lies in memory; it makes no more than a million states.
-/
namespace Go.Proofs.YthdkbbkkijdhfaaGreatDoor
open Go.RowKit Go.Shelf Go.Maps

theorem reNode_any (w : World) (q p : Nat) (t : TypeId) (hb : Blk w q #[.pointer (some ⟨p, 0, none⟩)] t) :
    Calls Tryz.prog 19 #[.pointer (some ⟨q, 0, none⟩)] w fun e w' => e = .returned (.pointer (some ⟨p, 0, none⟩)) ∧ w' = w := by
  have c0 : w.cell? ⟨q, 0, none⟩ = some (.pointer (some ⟨p, 0, none⟩)) := hb.cell 0 rfl
  go_enter Tryz.func19, Tryz.ntmps19
  go_wp2_with fail
  go_ret
  exact ⟨rfl, rfl⟩

theorem lay_rep (p q k kq m : Nat) (most : Int) (n : Rx.Nd) (w0 : World) (hb : Blk w0 p (ndCells 6 noHas m most (.slice (some ⟨k, 0, none⟩) 1 1)) 87) (hpq : p < q) (hkq : k < q)
    (hps : Ptrs w0 k [kq]) (hm : m ≤ 255 ∧ -1 ≤ most ∧ most ≤ 255) (hn : LayC n kq q w0) : LayC (.rep m most n) p q w0 := by
  intro w v st L tgt hw hpg hgo hto hlen
  have c0 := (hb.keep hw hpq).cell 0 (nd_kind _ _ _ _ _)
  have hrep := repeat_any p q k kq m most n w0 hb hpq hkq hps hm hn w v st L tgt hw hpg hgo hto hlen
  generalize Mx.lay (.rep m most n) tgt (sts L) = a at *
  unfold LayPost at hrep ⊢
  clear hb hpg hw hps hn hgo
  go_enter Tryz.func35, Tryz.ntmps35
  go_wp2_with fail
  refine hrep.mono ?_
  rintro e w' ⟨rfl, h2, h3⟩
  have H2 := Lib.hid h2
  have H3 := Lib.hid h3
  clear h2 h3 hrep
  go_wp2_with fail
  go_ret
  exact ⟨rfl, H2.out, H3.out⟩

theorem lay_any {M : Nat → Prop} {w0 : World} {p : Nat} {n : Rx.Nd} (h : NdIn w0 M p n) (q : Nat) (hM : ∀ b, M b → b < q) : LayC n p q w0 := by
  induction h with
  | empty hp hb => exact lay_empty _ q w0 hb (hM _ hp)
  | set hp hb => exact lay_set _ q _ w0 hb (hM _ hp)
  | beg hp hb => exact lay_beg _ q w0 hb (hM _ hp)
  | fin hp hb => exact lay_fin _ q w0 hb (hM _ hp)
  | cat hp hb h0 hc hk hl hps _ ih => exact lay_cat _ q _ _ _ _ w0 hb (hM _ hp) (hM _ hk) hc hl hps ih
  | alt hp hb h0 hc hk hl hps _ ih => exact lay_alt _ q _ _ _ _ w0 hb (hM _ hp) (hM _ hk) h0 hc hl hps ih
  | rep hp hb hk hps _ hm ih => exact lay_rep _ q _ _ _ _ _ w0 hb (hM _ hp) (hM _ hk) hps hm ih

theorem Pg.start {w : World} {q : Nat} {v : Value} {st : Int} {L : Sts} (h : Pg w q v st L) (s : Int) : Pg (w.setCell ⟨q, 1, none⟩ (.int .i64 s)) q v s L ∧ Below q w (w.setCell ⟨q, 1, none⟩ (.int .i64 s)) := by
  have hk : Kept (· = q) w (w.setCell ⟨q, 1, none⟩ (.int .i64 s)) := (Kept.refl (· = q) w).setCell (.inl rfl) 1 _
  refine ⟨⟨h.blk.set 1 _, own_kept h.own hk ?_, ?_⟩, hk.os, hk.tape, hk.output, hk.size, fun k hk' => hk.block k (by have := h.blk.lt; omega) (by omega)⟩
  · rintro k e rfl
    have := (h.own.lt k e).1
    omega
  · intro x hx h0
    obtain ⟨b, e, hb, hh⟩ := h.has x hx h0
    exact ⟨b, e, hb, hh.kept hk (by omega)⟩

/-- The states of an expression, and where they begin. -/
def progOf (n : Rx.Nd) : Nat × List Mx.St := Mx.lay n 0 [⟨4, Mx.no, 0, 0⟩]

/-- An expression that is ready, handed back. -/
def NewPost (a : Nat × List Mx.St) (q : Nat) (e : Ending) (w' : World) : Prop :=
  e = .returned (.pointer (some ⟨q, 0, none⟩)) ∧ ∃ v L, Pg w' q v a.1 L ∧ sts L = a.2

set_option maxHeartbeats 3200000 in
set_option maxRecDepth 100000 in
theorem New_any (B r : Nat) (n : Rx.Nd) (w : World) (h : ReAt w B r n) (hlen : (progOf n).2.length ≤ 1000000) :
    Calls Tryz.prog 15 #[.pointer (some ⟨r, 0, none⟩)] w fun e w' => NewPost (progOf n) w.heap.size e w' ∧ Below w.heap.size w w' := by
  obtain ⟨p, hb, hB, hn⟩ := h
  generalize hA : progOf n = a at hlen ⊢
  have HPO : Hid (Mx.lay n 0 (sts ([] ++ [((⟨4, Mx.no, 0, 0⟩ : Mx.St), (none : Option Nat))])) = a) := hA
  clear hA
  unfold NewPost
  have hpg : Pg (w.alloc (.cells #[.slice none 0 0, .int .i64 0] 81)) w.heap.size (.slice none 0 0) 0 [] :=
    ⟨Blk.new w _ _, World.ownsRow_nil _ _ _ _, fun x hx => by cases hx⟩
  have hbl : Below w.heap.size w (w.alloc (.cells #[.slice none 0 0, .int .i64 0] 81)) := (Below.refl _ _).alloc (Nat.le_refl _) _
  have HN := Lib.hid hn
  have HB := Lib.hid hb
  clear hb hn
  go_enter Tryz.func15, Tryz.ntmps15
  go_wp2_with fail
  have hnode := reNode_any (w.alloc (.cells #[.slice none 0 0, .int .i64 0] 81)) r p _ (HB.out.alloc _)
  refine hnode.mono ?_
  rintro e w1 ⟨rfl, rfl⟩
  have hadd := add_any (w.alloc (.cells #[.slice none 0 0, .int .i64 0] 81)) w.heap.size _ 0 [] ⟨4, Mx.no, 0, 0⟩ none hpg (by decide) fun h => by simp at h
  unfold stV at hadd
  clear hnode
  go_wp2_with fail
  refine hadd.mono ?_
  rintro e w2 ⟨⟨rfl, v2, hpg2⟩, hb2⟩
  have hbw2 := hbl.trans hb2
  have hcall := lay_any HN.out.lt w.heap.size (fun b hb => hb.2) w2 v2 0 _ 0 hbw2 hpg2 (fun s hs => by
    have : s = ⟨4, Mx.no, 0, 0⟩ := by simpa [sts] using hs
    subst this
    exact ⟨by simp [sts], by simp [sts]⟩) (by simp) (by rw [HPO.out]; exact hlen)
  unfold LayPost at hcall
  rw [HPO.out] at hcall
  have HB2 := Lib.hid hbw2
  clear hadd hpg hpg2 hb2 hbw2 hbl HPO
  go_wp2_with fail
  refine hcall.mono ?_
  rintro e w3 ⟨rfl, ⟨v3, L3, hpg3, hst3⟩, hb3⟩
  have cq1 : w3.cell? ⟨w.heap.size, 1, none⟩ = some (.int .i64 0) := hpg3.blk.cell 1 rfl
  have fq1 := hpg3.blk.free 1
  have HPS := Lib.hid (hpg3.start a.1)
  have HS3 := Lib.hid hst3
  have HB3 := Lib.hid (HB2.out.trans hb3)
  clear hpg3 hst3 hb3 hcall
  go_wp2_with fail
  go_ret
  exact ⟨⟨rfl, v3, L3, HPS.out.1, HS3.out⟩, HB3.out.trans HPS.out.2⟩

end Go.Proofs.YthdkbbkkijdhfaaGreatDoor
