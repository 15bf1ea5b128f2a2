/-
  The walk of run; run, double, dollar, braced and inner by their contracts. Condition: lengths.
-/
import Derived.Test.YtfoehfehnmhhmaaGreatDoorW23
import Derived.Deep.LoopGhost
namespace Go.Proofs.YtfoehfehnmhhmaaGreatDoor
open Go.RowKit Go.Shelf Go.Maps

/-- What a round of run knows. -/
structure RunIn (w wr : World) (b : Nat) (vv av v v1 : Value) (x1 y : Wd.Ex) (s : Wd.Bytes) (inq : Bool) (g : Nat) : Prop where
  res : Wd.run g x1 s inq = some y
  ex : ExIs w wr b vv av x1 v v1
  ls : s.length < 1073741824

/-- What is known of a piece. -/
structure PieceIn (S P : Wd.Bytes) (c : UInt8) (n : Nat) : Prop where
  n1 : 1 ≤ n
  nl : n ≤ S.length
  ne : S.isEmpty = false
  pl : P.length = n
  ext : (⟨S.toArray⟩ : ByteArray).extract 0 n = ⟨P.toArray⟩
  exd : (⟨S.toArray⟩ : ByteArray).extract n S.length = ⟨(S.drop n).toArray⟩
  is0 : ∀ h, (⟨P.toArray⟩ : ByteArray)[0]'h = c
  exk : (⟨P.toArray⟩ : ByteArray).extract 1 (n - 1) = ⟨((S.take (n - 1)).drop 1).toArray⟩
  sl : ((S.take (n - 1)).drop 1).length < S.length
theorem PieceIn.mk' {c : UInt8} {r : Wd.Bytes} {n : Nat} (h1 : 1 ≤ n) (h2 : n ≤ (c :: r).length) : PieceIn (c :: r) ((c :: r).take n) c n := by
  obtain ⟨k, rfl⟩ : ∃ k, n = k + 1 := ⟨n - 1, by omega⟩
  refine ⟨h1, h2, rfl, by rw [List.length_take]; omega, extr_take _ _, extract_from _ _, fun _ => rfl, ?_, ?_⟩
  · apply ByteArray.ext
    simp [ByteArray.data_extract, List.drop_take, List.take_take]
  · rw [List.length_drop, List.length_take]; simp at h2 ⊢; omega

theorem run_len {x y : Wd.Ex} {c : UInt8} {r : Wd.Bytes} {inq : Bool} {g : Nat} (h : Wd.run (g + 1) x (c :: r) inq = some y) : x.l.length ≤ 1073741824 := by
  rw [Wd.run.eq_def] at h
  simp only at h
  split at h
  · cases h
  · rename_i hh; exact Nat.le_of_not_lt hh

set_option maxHeartbeats 12800000 in
set_option maxRecDepth 100000 in
theorem run_any (f : Nat) (hD : ∀ g, g < f → DoubleC g) (hL : ∀ g, g < f → DollarC g) : RunC f := by
  intro w b vv av v x y s inq h hg h8 hs hr
  have H : Hid (RunIn w w b vv av v v x y s inq f) := ⟨hr, h.is, hs⟩
  have HAT := Lib.hid h
  have HG := Lib.hid hg
  have hblt := h.blk.lt
  obtain ⟨i0, hi0, hz0, hz1, hz2⟩ := info_parts info_unit
  clear h hg hr hs
  go_enter Tryz.func21, Tryz.ntmps21
  go_wp2_with fail
  go_loopg [1, 6, 7, 8, 23, 32, 53, 77, 90] f (fun g x1 _ _ _ _ _ _ _ _ wr => ∃ (s : Wd.Bytes) (x : Wd.Ex) (v1 : Value), x1 = .string ⟨s.toArray⟩ ∧ g ≤ f ∧ Hid (RunIn w wr b vv av v v1 x y s inq g))
  case atStart => exact ⟨s, x, v, rfl, Nat.le_refl _, H⟩
  case round =>
    obtain ⟨s, x, v1, rfl, hgf, HI⟩ := hrel
    obtain ⟨k, rfl⟩ : ∃ k, gk = k + 1 := by
      cases gk with
      | zero => exact absurd HI.out.res (by simp [Wd.run])
      | succ k => exact ⟨k, rfl⟩
    have hr := HI.out.res
    cases s with
    | nil =>
      have hxy : x = y := by rw [Wd.run.eq_def] at hr; exact Option.some.inj hr
      have HXY := Lib.hid hxy
      clear hr hxy
      go_wp2_with fail
      refine bodyPost_end (results_none rfl _ _ _) rfl ?_
      exact ⟨rfl, v1, HXY.out ▸ HI.out.ex⟩
    | cons c r =>
      have hxl := run_len hr
      have hsl := HI.out.ls
      rw [Wd.run.eq_def] at hr
      simp only at hr
      rw [if_neg (by show ¬ (1073741824 < _); omega)] at hr
      rcases hpn : Wd.pieceN (c :: r) inq with e | n
      · rw [hpn] at hr; cases hr
      rw [hpn] at hr
      simp only at hr
      have hpl := pieceN_len hpn
      have hpi := PieceIn.mk' hpl.1 hpl.2
      have hpc := pieceN_any (c :: r) inq n (by simp) hsl hpn
      have HEX := Lib.hid HI.out.ex
      clear HI hpn
      generalize hP : (c :: r).take n = P at *
      clear hP
      generalize (c :: r) = S at *
      obtain ⟨n1, n2, ne, pl, ext, exd, is0, exk, skl⟩ := hpi
      have n3 : (1 : Int) ≤ (n : Int) := by omega
      have n4 : (n : Int) ≤ (S.length : Int) := by omega
      have pl1 : 1 ≤ P.length := by omega
      have pl2 : (1 : Int) ≤ (P.length : Int) := by omega
      have hat := HEX.out.at_
      have hob := hat.blk.lt
      have hgl := HEX.out.glo HAT.out HG.out h8
      have HGL := Lib.hid hgl
      clear hgl
      by_cases h92 : c = 92
      · rw [if_pos h92] at hr; cases hr
      rw [if_neg h92] at hr
      have c92 : ¬ ((c.toNat : Int) = 92) := u8_lit h92 (by decide)
      by_cases h39 : c = 39 ∧ inq = false
      · rw [if_pos h39] at hr
        obtain ⟨rfl, rfl⟩ := h39
        by_cases hn2 : n < 2
        · rw [if_pos hn2] at hr; cases hr
        rw [if_neg hn2] at hr
        have HR := Lib.hid hr
        have hat1 := hat
        have c3 : wr.cell? ⟨b, 3, none⟩ = some v1 := hat.blk.cell 3 rfl
        have hpi := hat.pushIn (.cells #[.iface 68 (.agg #[])] 75)
        have HCELL : Hid (∀ j u, [Value.iface 68 (.agg #[])][j]? = some u → (wr.alloc (.cells #[.iface 68 (.agg #[])] 75)).cell? ((⟨wr.heap.size, 0, none⟩ : Addr).add j) = some u) := cell_one_new _ _ _
        have e3 := hpi.c
        have HPI := Lib.hid hpi
        have HAT1 := Lib.hid hat1
        obtain ⟨m, hm⟩ : ∃ m, m = n - 1 := ⟨_, rfl⟩
        have m1 : (n : Int) - 1 = (m : Int) := by omega
        have m2 : (1 : Int) ≤ (m : Int) := by omega
        have m3 : (m : Int) ≤ (P.length : Int) := by omega
        have m4 : 1 ≤ m := by omega
        have m5 : m ≤ P.length := by omega
        rw [← hm] at exk skl HR
        have SKL : Hid (((S.take m).drop 1).length < 1073741824) := by show _ < _; omega
        clear hr hat hat1 hpi hm skl
        generalize (S.take m).drop 1 = Z at *
        go_wp2_with fail
        refine (hpc _).mono ?_
        rintro e w1 ⟨rfl, rfl⟩
        clear hpc
        go_wp2_with (at_builtin; refine wpList_append_own_at _ rfl _ _ 49 rfl (b + 1) 75 i0 .nilIface 1 16 Tryz.underlying49 hi0 hz0 hz1 hz2 rfl (by decide) _ _ _ rfl HPI.out.own ⟨w1.heap.size, 0, none⟩ 1 1 [.iface 68 (.agg #[])] (by rfl) rfl HCELL.out (by simp [Value.oneCell']) (by unfold maxLen; omega) (by omega) (by have := HPI.out.size; rw [this]; omega) ?_; intro v' w6 hown' hgrow _ hv'; obtain ⟨gg2, cap2, rfl⟩ := own_slice hown'; obtain ⟨hc6, hf6⟩ := HPI.out.far hgrow; have HXP2 := Lib.hid (HAT1.out.pushOut (u := .mark) HPI.out hown' hgrow hv'); clear hown' hgrow hv')
        have hput := put_any _ b vv av _ _ Z true false HXP2.out.at_ (by rw [Ex_add_l, List.length_append]; simp; omega) (by have := SKL.out; omega)
        refine hput.mono ?_
        rintro e w7 ⟨rfl, v7, hx7⟩
        have HX7 := Lib.hid (HEX.out.trans (HXP2.out.trans hx7))
        clear hput hx7
        go_wp2_with fail
        go_roundg k
        case measure => omega
        case rel => exact ⟨S.drop n, _, v7, rfl, by omega, HR.out, HX7.out, by rw [List.length_drop]; omega⟩
      rw [if_neg h39] at hr
      by_cases h34 : c = 34 ∧ inq = false
      · rw [if_pos h34] at hr
        obtain ⟨rfl, rfl⟩ := h34
        by_cases hn2 : n < 2
        · rw [if_pos hn2] at hr; cases hr
        rw [if_neg hn2] at hr
        rcases hdd : Wd.double k x ((S.take (n - 1)).drop 1) with _ | x2
        · rw [hdd] at hr; cases hr
        rw [hdd] at hr
        have HR : Hid (Wd.run k x2 (S.drop n) false = some y) := hr
        obtain ⟨m, hm⟩ : ∃ m, m = n - 1 := ⟨_, rfl⟩
        have m1 : (n : Int) - 1 = (m : Int) := by omega
        have m2 : (1 : Int) ≤ (m : Int) := by omega
        have m3 : (m : Int) ≤ (P.length : Int) := by omega
        have m4 : 1 ≤ m := by omega
        have m5 : m ≤ P.length := by omega
        rw [← hm] at exk skl hdd
        have hdc := Lib.hid (hD k (by omega) wr b vv av v1 x x2 _ hat HGL.out h8 hxl (by omega) hdd)
        clear hr hdd hat hm skl
        generalize (S.take m).drop 1 = Z at *
        go_wp2_with fail
        refine (hpc _).mono ?_
        rintro e w1 ⟨rfl, rfl⟩
        clear hpc
        go_wp2_with fail
        refine hdc.out.mono ?_
        rintro e w7 ⟨rfl, v7, hx7⟩
        have HX7 := Lib.hid (HEX.out.trans hx7)
        clear hdc hx7
        go_wp2_with fail
        go_roundg k
        case measure => omega
        case rel => exact ⟨S.drop n, _, v7, rfl, by omega, HR.out, HX7.out, by rw [List.length_drop]; omega⟩
      rw [if_neg h34] at hr
      by_cases h36 : c = 36
      · subst h36
        rw [if_pos rfl] at hr
        rcases hdd : Wd.dollar k x S P inq with _ | ⟨x2, m⟩
        · rw [hdd] at hr; cases hr
        rw [hdd] at hr
        simp only at hr
        by_cases hm : m ≤ S.length
        · rw [if_pos hm] at hr
          have HR : Hid (Wd.run k x2 (S.drop m) inq = some y) := hr
          have m1 : (m : Int) ≤ (S.length : Int) := by omega
          have exm := extract_from S m
          have hdc := Lib.hid (hL k (by omega) wr b vv av v1 x x2 S P inq m hat HGL.out h8 hxl hsl (by omega) (by rintro rfl; simp at ne) hdd)
          clear hr hdd hat
          go_wp2_with fail
          refine (hpc _).mono ?_
          rintro e w1 ⟨rfl, rfl⟩
          clear hpc
          go_wp2_with fail
          refine hdc.out.mono ?_
          rintro e w7 ⟨rfl, v7, hx7⟩
          have HX7 := Lib.hid (HEX.out.trans hx7)
          clear hdc hx7
          go_wp2_with fail
          go_roundg k
          case measure => omega
          case rel => exact ⟨S.drop m, _, v7, rfl, by omega, HR.out, HX7.out, by rw [List.length_drop]; omega⟩
        · rw [if_neg hm] at hr; cases hr
      rw [if_neg h36] at hr
      have c36 : ¬ ((c.toNat : Int) = 36) := u8_lit h36 (by decide)
      have HR := Lib.hid hr
      have hput := fun W hW => put_any W b vv av v1 x P inq false hW (by omega) (by omega)
      have HPUT := Lib.hid (hput wr hat)
      clear hr hput hat
      have hcase : (c = 39 ∧ inq = true) ∨ (c = 34 ∧ inq = true) ∨ (¬ ((c.toNat : Int) = 39) ∧ ¬ ((c.toNat : Int) = 34)) := by
        cases inq with
        | true =>
          by_cases a : c = 39
          · exact .inl ⟨a, rfl⟩
          · by_cases a2 : c = 34
            · exact .inr (.inl ⟨a2, rfl⟩)
            · exact .inr (.inr ⟨u8_lit a (by decide), u8_lit a2 (by decide)⟩)
        | false => exact .inr (.inr ⟨u8_lit (fun e => h39 ⟨e, rfl⟩) (by decide), u8_lit (fun e => h34 ⟨e, rfl⟩) (by decide)⟩)
      clear h39 h34
      rcases hcase with ⟨rfl, rfl⟩ | ⟨rfl, rfl⟩ | ⟨c39, c34⟩
      all_goals
        go_wp2_with fail
        refine (hpc _).mono ?_
        rintro e w1 ⟨rfl, rfl⟩
        clear hpc
        go_wp2_with fail
        refine HPUT.out.mono ?_
        rintro e w2 ⟨rfl, v2, hx2⟩
        have HX2 := Lib.hid (HEX.out.trans hx2)
        clear hx2 HPUT
        go_wp2_with fail
        go_roundg k
        case measure => omega
        case rel => exact ⟨S.drop n, _, v2, rfl, by omega, HR.out, HX2.out, by rw [List.length_drop]; omega⟩

theorem all_any (f : Nat) : RunC f ∧ DoubleC f ∧ DollarC f ∧ BracedC f ∧ InnerC f := by
  induction f using Nat.strongRecOn with
  | ind f ih =>
    have hR := run_any f (fun g hg => (ih g hg).2.1) (fun g hg => (ih g hg).2.2.1)
    cases f with
    | zero =>
      refine ⟨hR, ?_, ?_, ?_, ?_⟩
      · intro w b vv av v x y s _ _ _ _ _ hd; cases hd
      · intro w b vv av v x y s p inq m _ _ _ _ _ _ _ hd; cases hd
      · intro w b vv av v x y s inq _ _ _ _ _ hd; cases hd
      · intro w b vv av v x s l _ _ _ _ hd; cases hd
    | succ f =>
      have h := ih f (Nat.lt_succ_self f)
      exact ⟨hR, double_any f h.1, dollar_any f h.2.2.2.1, braced_any f h.2.2.2.2, inner_any f h.1⟩

end Go.Proofs.YtfoehfehnmhhmaaGreatDoor
