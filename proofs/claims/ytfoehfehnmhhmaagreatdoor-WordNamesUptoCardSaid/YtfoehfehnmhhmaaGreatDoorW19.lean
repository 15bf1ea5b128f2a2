/-
  The walk of dollar. Condition: lengths.
-/
import Derived.Test.YtfoehfehnmhhmaaGreatDoorW18
namespace Go.Proofs.YtfoehfehnmhhmaaGreatDoor
open Go.RowKit Go.Shelf Go.Maps

theorem sizeOf_named {rest : Wd.Bytes} (h : ¬ Wd.named rest = 0) : Wd.sizeOf rest = Wd.named rest := by
  unfold Wd.sizeOf; rw [if_neg]; exact fun e => h e.1
theorem named_le (s : Wd.Bytes) : Wd.named s ≤ s.length := by
  cases s with
  | nil => simp [Wd.named]
  | cons c r =>
    rw [named_cons]
    split
    · have := (List.takeWhile_sublist (l := r) (fun c => Wd.head c || Wd.digit c)).length_le
      simp; omega
    · simp

theorem sizeOf_zero {rest : Wd.Bytes} (hn : Wd.named rest = 0) (hz : ¬ Wd.sizeOf rest = 0) :
    Wd.sizeOf rest = 1 ∧ (Wd.special rest = true ∨ (Wd.special rest = false ∧ ∃ d, Wd.digit d = true ∧ rest ≠ [] ∧ ∀ h, (⟨rest.toArray⟩ : ByteArray)[0]'h = d)) := by
  cases rest with
  | nil => exact absurd (by simp [Wd.sizeOf, Wd.named, Wd.special]) hz
  | cons d r2 =>
    have e : Wd.sizeOf (d :: r2) = if Wd.named (d :: r2) = 0 ∧ (Wd.special (d :: r2) || Wd.digit d) = true then 1 else Wd.named (d :: r2) := rfl
    rw [e] at hz ⊢
    by_cases hc : Wd.named (d :: r2) = 0 ∧ (Wd.special (d :: r2) || Wd.digit d) = true
    · rw [if_pos hc]
      refine ⟨rfl, ?_⟩
      have h2 := hc.2
      cases hsp : Wd.special (d :: r2) with
      | true => exact .inl rfl
      | false =>
        rw [hsp, Bool.false_or] at h2
        exact .inr ⟨rfl, d, h2, by simp, fun _ => rfl⟩
    · rw [if_neg hc] at hz; exact absurd hn hz

set_option maxHeartbeats 6400000 in
set_option maxRecDepth 100000 in
theorem dollar_any (f : Nat) (hB : BracedC f) : DollarC (f + 1) := by
  intro w b vv av v x y s p inq m h hg h8 hl hs hp hne hd
  rw [Wd.dollar.eq_def] at hd
  simp only at hd
  by_cases h1 : 1 < p.length
  · rw [if_pos h1] at hd
    by_cases h3 : p.length < 3
    · rw [if_pos h3] at hd; cases hd
    rw [if_neg h3] at hd
    rcases hb : Wd.braced f x ((p.take (p.length - 1)).drop 2) inq with _ | x2
    · rw [hb] at hd; cases hd
    rw [hb] at hd
    obtain ⟨rfl, rfl⟩ : x2 = y ∧ p.length = m := by cases hd; exact ⟨rfl, rfl⟩
    have hbr := hB w b vv av v x x2 _ inq h hg h8 hl (by simp; omega) hb
    obtain ⟨k, hk⟩ : ∃ k : Nat, k = p.length - 1 := ⟨_, rfl⟩
    have hk1 : (p.length : Int) - 1 = (k : Int) := by omega
    have hk2 : 2 ≤ k := by omega
    have hk3 : k ≤ p.length := by omega
    have hk4 : (2 : Int) ≤ (k : Int) := by omega
    have hk5 : (k : Int) ≤ (p.length : Int) := by omega
    have exs : (⟨p.toArray⟩ : ByteArray).extract 2 k = ⟨((p.take k).drop 2).toArray⟩ := by
      apply ByteArray.ext; simp [ByteArray.data_extract, List.drop_take]
    rw [← hk] at hbr
    have h1' : (1 : Int) < (p.length : Int) := by omega
    clear hd hb hg h3 hB hk h
    go_enter Tryz.func38, Tryz.ntmps38
    go_wp2_with fail
    refine hbr.mono ?_
    rintro e w1 ⟨rfl, v1, hx⟩
    have HX := Lib.hid hx
    clear hx hbr
    go_wp2_with fail
    go_ret
    exact ⟨rfl, v1, HX.out⟩
  · rw [if_neg h1] at hd
    cases s with
    | nil => exact absurd rfl hne
    | cons c rest =>
      have e1 : (c :: rest).drop 1 = rest := rfl
      rw [e1] at hd
      have exr : (⟨(c :: rest).toArray⟩ : ByteArray).extract 1 (c :: rest).length = ⟨rest.toArray⟩ := extract_drop (c :: rest) 1
      have exr' : (⟨(c :: rest).toArray⟩ : ByteArray).extract 1 (rest.length + 1) = ⟨rest.toArray⟩ := extract_drop (c :: rest) 1
      have hpl : (c :: rest).length = rest.length + 1 := by simp
      have hrl : rest.length < 1073741824 := by simp at hs; omega
      have hnm := named_any rest hrl w
      have h1' : ¬ (1 : Int) < (p.length : Int) := by omega
      by_cases hz : Wd.sizeOf rest = 0
      · rw [if_pos hz] at hd; cases hd
      rw [if_neg hz] at hd
      rcases hpn : x.plain (rest.take (Wd.sizeOf rest)) inq with _ | x2
      · rw [hpn] at hd; cases hd
      rw [hpn] at hd
      obtain ⟨rfl, rfl⟩ : x2 = y ∧ Wd.sizeOf rest + 1 = m := by cases hd; exact ⟨rfl, rfl⟩
      have hpln := plain_any w b vv av v x x2 (rest.take (Wd.sizeOf rest)) inq h hg h8 hl (by rw [List.length_take]; omega) hpn
      have ext := extr_take rest (Wd.sizeOf rest)
      clear hd hg h hB hpn
      by_cases hn : Wd.named rest = 0
      · obtain ⟨hsz, hcase⟩ := sizeOf_zero hn hz
        have hsp := special_any rest w
        rw [hsz] at hpln ext ⊢
        rw [hn] at hnm
        clear hz hsz hn
        rcases hcase with hc | ⟨hc, d, hdg, hre, is0⟩
        · rw [hc] at hsp
          have hr1 : 1 ≤ rest.length := by
            cases rest with
            | nil => simp [Wd.special] at hc
            | cons d r2 => simp
          have hr2 : (1 : Int) ≤ (rest.length : Int) := by omega
          clear hc
          go_enter Tryz.func38, Tryz.ntmps38
          go_wp2_with fail
          refine hnm.mono ?_
          rintro e w1 ⟨rfl, rfl⟩
          clear hnm
          go_wp2_with fail
          refine hsp.mono ?_
          rintro e w1 ⟨rfl, rfl⟩
          clear hsp
          go_wp2_with fail
          refine hpln.mono ?_
          rintro e w1 ⟨rfl, v1, hx⟩
          have HX := Lib.hid hx
          clear hx hpln
          go_wp2_with fail
          go_ret
          exact ⟨rfl, v1, HX.out⟩
        · rw [hc] at hsp
          have hdig := digit_any d w
          rw [hdg] at hdig
          have es : rest.isEmpty = false := by cases rest with
            | nil => exact absurd rfl hre
            | cons a r => rfl
          have hr1 : 1 ≤ rest.length := by cases rest with
            | nil => exact absurd rfl hre
            | cons a r => simp
          have hr2 : (1 : Int) ≤ (rest.length : Int) := by omega
          clear hc hdg
          go_enter Tryz.func38, Tryz.ntmps38
          go_wp2_with fail
          refine hnm.mono ?_
          rintro e w1 ⟨rfl, rfl⟩
          clear hnm
          go_wp2_with fail
          refine hsp.mono ?_
          rintro e w1 ⟨rfl, rfl⟩
          clear hsp
          go_wp2_with fail
          refine hdig.mono ?_
          rintro e w1 ⟨rfl, rfl⟩
          clear hdig
          go_wp2_with fail
          refine hpln.mono ?_
          rintro e w1 ⟨rfl, v1, hx⟩
          have HX := Lib.hid hx
          clear hx hpln
          go_wp2_with fail
          go_ret
          exact ⟨rfl, v1, HX.out⟩
      · have hle := named_le rest
        rw [sizeOf_named hn] at hpln ext ⊢
        clear hz
        generalize Wd.named rest = N at *
        have hn2 : ¬ (N : Int) = 0 := by omega
        have hn3 : (N : Int) ≤ (rest.length : Int) := by omega
        go_enter Tryz.func38, Tryz.ntmps38
        go_wp2_with fail
        refine hnm.mono ?_
        rintro e w1 ⟨rfl, rfl⟩
        clear hnm
        go_wp2_with fail
        refine hpln.mono ?_
        rintro e w1 ⟨rfl, v1, hx⟩
        have HX := Lib.hid hx
        clear hx hpln
        go_wp2_with fail
        go_ret
        exact ⟨rfl, v1, HX.out⟩

end Go.Proofs.YtfoehfehnmhhmaaGreatDoor
