/-
  The walk of piece. Conditions: the line, the order and the key lie in memory as they are told; the key's numbers are within their bounds.
-/
import Derived.Test.YtnhopkjichgckaaDoorW8
namespace Go.Proofs.YtnhopkjichgckaaDoor
open Go.RowKit Go.Shelf

theorem Drawn.trans {w w' w'' : World} (h : Drawn w w') (h2 : Drawn w' w'') : Drawn w w'' := by
  obtain ⟨n, rfl⟩ := h2
  exact h.more n

/-- A key's numbers are within their bounds. -/
structure FitKey (k : Ord.Key) : Prop where
  ff1 : 1 ≤ k.from_.f
  ff2 : k.from_.f ≤ 2147483647
  fc1 : 0 ≤ k.from_.c
  fc2 : k.from_.c ≤ 2147483647
  tf1 : 0 ≤ k.to_.f
  tf2 : k.to_.f ≤ 2147483647
  tc1 : 0 ≤ k.to_.c
  tc2 : k.to_.c ≤ 2147483647

theorem fieldEnd_ge (sep : Int) (b : Ord.Bytes) (a : Nat) : a ≤ Ord.fieldEnd sep b a := by
  unfold Ord.fieldEnd; split
  · omega
  · simp only; omega
theorem fieldEnd_le (sep : Int) (b : Ord.Bytes) (a : Nat) (h : a ≤ b.length) : Ord.fieldEnd sep b a ≤ b.length := by
  by_cases hs : 0 ≤ sep
  · unfold Ord.fieldEnd; rw [if_pos hs]
    have := (List.takeWhile_sublist (p := fun c : UInt8 => !((c.toNat : Int) == sep)) (l := b.drop a)).length_le
    simp only [List.length_drop] at this; omega
  · rw [fieldEnd_blank sep (by omega)]
    exact runTo_le _ _ _ (runTo_le _ _ _ h)
theorem field_bd (sep : Int) (b : Ord.Bytes) : ∀ (n a0 a e : Nat), a0 ≤ b.length → Ord.field sep b n a0 = some (a, e) → a ≤ e ∧ e ≤ b.length := by
  intro n
  induction n with
  | zero => intro a0 a e _ h; simp [Ord.field] at h
  | succ n ih =>
    intro a0 a e h0 h
    have h1 := fieldEnd_ge sep b a0
    have h2 := fieldEnd_le sep b a0 h0
    unfold Ord.field at h
    split at h
    · simp at h; omega
    · split at h
      · simp at h
      · refine ih _ a e ?_ h
        split <;> omega

/-- field's answer, slot by slot. -/
def FieldIs (sep : Int) (b : Ord.Bytes) (n a e : Nat) (is : Bool) : Prop := (is = true ∧ Ord.field sep b n 0 = some (a, e)) ∨ (is = false ∧ Ord.field sep b n 0 = none)
theorem fieldVal_eq (sep : Int) (b : Ord.Bytes) (n : Nat) : ∃ a e is, FieldIs sep b n a e is ∧ fieldVal sep b n = .tuple #[.int .i64 (a : Int), .int .i64 (e : Int), .bool is] := by
  unfold fieldVal FieldIs
  cases Ord.field sep b n 0 with
  | none => exact ⟨0, 0, false, .inr ⟨rfl, rfl⟩, rfl⟩
  | some x => exact ⟨x.1, x.2, true, .inl ⟨rfl, rfl⟩, rfl⟩

/-- What piece hands back. -/
def pieceVal (sep : Int) (b : Ord.Bytes) (p : Option Addr) (cap : Nat) (k : Ord.Key) : Value :=
  if Ord.pieceTo sep b k ≤ Ord.pieceFrom sep b k then .slice none 0 0
  else .slice (cutP p cap (Ord.pieceFrom sep b k).toNat) ((Ord.pieceTo sep b k).toNat - (Ord.pieceFrom sep b k).toNat) (cap - (Ord.pieceFrom sep b k).toNat)

set_option maxHeartbeats 3200000 in
set_option maxRecDepth 100000 in
theorem piece_any (ob kb : Nat) (sep : Int) (hs0 : -1 ≤ sep) (hs1 : sep < 256) (key : Ord.Key) (hfit : FitKey key) (b : Ord.Bytes) (p : Option Addr) (cap : Nat) (w : World)
    (hs : w.cell? ⟨ob, 1, none⟩ = some (.int .i64 sep)) (hk : KeyAt w kb key) (hb : Bs w p b) (hp : p = none → cap = 0) (hc : b.length ≤ cap) (hl : b.length ≤ 140737488351232) :
    Calls Tryd.prog 19 #[.pointer (some ⟨ob, 0, none⟩), .slice p b.length cap, .pointer (some ⟨kb, 0, none⟩)] w fun e w' => e = .returned (pieceVal sep b p cap key) ∧ Drawn w w' := by
  obtain ⟨⟨ff, fc⟩, ⟨tf, tc⟩, fl⟩ := key
  obtain ⟨ff1, ff2, fc1, fc2, tf1, tf2, tc1, tc2⟩ := hfit
  simp only at ff1 ff2 fc1 fc2 tf1 tf2 tc1 tc2
  obtain ⟨n, rfl⟩ := Int.eq_ofNat_of_zero_le (show 0 ≤ ff by omega)
  obtain ⟨m, rfl⟩ := Int.eq_ofNat_of_zero_le tf1
  have hfield : ∀ w', Drawn w w' → ∀ n : Nat, 1 ≤ n → n ≤ 2147483647 → Calls Tryd.prog 25 #[.pointer (some ⟨ob, 0, none⟩), .slice p b.length cap, .int .i64 n] w' fun e w'' => (∃ x y is, FieldIs sep b n x y is ∧ e = .returned (.tuple #[.int .i64 (x : Int), .int .i64 (y : Int), .bool is])) ∧ Drawn w' w'' := by
    intro w' hd n h1 h2
    obtain ⟨q, rfl⟩ := hd
    obtain ⟨x, y, is, h3, h4⟩ := fieldVal_eq sep b n
    have := field_any ob sep hs0 hs1 b p cap n (w.drewN q) hs (hb.drew q) hp hc hl h1 h2
    rw [h4] at this
    exact this.mono fun e w'' ⟨h5, h6⟩ => ⟨⟨x, y, is, h3, h5⟩, h6⟩
  have hinner : ∀ w', Drawn w w' → ∀ a e : Nat, a ≤ e → e ≤ b.length → Calls Tryd.prog 26 #[.slice p b.length cap, .int .i64 a, .int .i64 e] w' fun r w'' => r = .returned (.int .i64 (Ord.inner b a e)) ∧ w' = w'' := by
    intro w' hd a e h1 h2
    obtain ⟨q, rfl⟩ := hd
    exact inner_any b p cap a e (w.drewN q) (hb.drew q) h1 h2 (by omega)
  have hkey : ∀ w', Drawn w w' → KeyAt w' kb ⟨⟨n, fc⟩, ⟨m, tc⟩, fl⟩ := by
    intro w' hd
    obtain ⟨q, rfl⟩ := hd
    exact Blk.drewN hk q
  have HFIELD := Lib.hid hfield; have HINNER := Lib.hid hinner; have HKEY := Lib.hid hkey
  clear hfield hinner hkey hs hk hb hp
  have hbf := field_bd sep b n 0
  have hbt := field_bd sep b m 0
  have HBF := Lib.hid hbf; have HBT := Lib.hid hbt
  clear hbf hbt
  have HPF : Hid (Ord.pieceFrom sep b ⟨⟨n, fc⟩, ⟨m, tc⟩, fl⟩ = match Ord.field sep b n 0 with
    | none => (b.length : Int)
    | some (a, e) => ((if Ord.has fl 1 then Ord.inner b a e else a : Nat) : Int) + max 0 (fc - 1)) := rfl
  have HPT : Hid (Ord.pieceTo sep b ⟨⟨n, fc⟩, ⟨m, tc⟩, fl⟩ = if 0 < (m : Int) then
    match Ord.field sep b m 0 with
    | none => (b.length : Int)
    | some (a, e) => if 0 < tc then min (b.length : Int) (((if Ord.has fl 2 then Ord.inner b a e else a : Nat) : Int) + tc) else (e : Int)
  else (b.length : Int)) := rfl
  have hk0 := HKEY.out w (Drawn.refl w)
  have k0 : w.cell? ⟨kb, 0, none⟩ = some (.int .i64 (n : Int)) := Blk.cell hk0 0 rfl
  clear hk0
  go_enter Tryd.func19, Tryd.ntmps19
  go_wp2_with fail
  refine (HFIELD.out w (Drawn.refl w) n (by omega) (by omega)).mono ?_
  rintro e w1 ⟨⟨a, e, is, hfi, rfl⟩, hd1⟩
  have HFI := Lib.hid hfi; clear hfi
  have HD1 := Lib.hid hd1; clear hd1
  have hk1 := HKEY.out w1 HD1.out
  have c4 : w1.cell? ⟨kb, 4, none⟩ = some (.int .i64 fl) := Blk.cell hk1 4 rfl
  have c1 : w1.cell? ⟨kb, 1, none⟩ = some (.int .i64 fc) := Blk.cell hk1 1 rfl
  clear hk1 k0
  go_upto_if 31 with fail
  obtain ⟨F, hF⟩ : ∃ F, F = Ord.pieceFrom sep b ⟨⟨n, fc⟩, ⟨m, tc⟩, fl⟩ := ⟨_, rfl⟩
  obtain ⟨T, hT⟩ : ∃ T, T = Ord.pieceTo sep b ⟨⟨n, fc⟩, ⟨m, tc⟩, fl⟩ := ⟨_, rfl⟩
  have hV : pieceVal sep b p cap ⟨⟨n, fc⟩, ⟨m, tc⟩, fl⟩ = if T ≤ F then .slice none 0 0 else .slice (cutP p cap F.toNat) (T.toNat - F.toNat) (cap - F.toNat) := by rw [hF, hT]; rfl
  have HF := Lib.hid hF; have HT := Lib.hid hT; have HV := Lib.hid hV
  clear hF hT hV
  go_cut [7, 9] (fun s7 _s9 wx => s7 = .int .i64 F ∧ 0 ≤ F ∧ F ≤ 4294967296 + b.length ∧ w1 = wx)
  case first =>
    rcases HFI.out with ⟨rfl, hfo⟩ | ⟨rfl, hfo⟩
    · obtain ⟨hae, heb⟩ := HBF.out a e (Nat.zero_le _) hfo
      by_cases h1 : bits .and .i64 fl 1 = 0
      · have h1' : (bits .and .i64 fl 1 == 0) = true := by simpa using h1
        have HR : Hid (F = (a : Int) + max 0 (fc - 1)) := by show _ = _; rw [HF.out, HPF.out, hfo]; simp [Ord.has, h1]
        clear hfo h1
        go_wp2_with fail
        go_meet
        exact ⟨by rw [HR.out], by rw [HR.out]; omega, by rw [HR.out]; omega, rfl⟩
      · have h1' : (bits .and .i64 fl 1 == 0) = false := by simpa using h1
        have HR : Hid (F = (Ord.inner b a e : Int) + max 0 (fc - 1)) := by show _ = _; rw [HF.out, HPF.out, hfo]; simp [Ord.has, h1]
        have hi1 := Ord.inner_le b a e hae
        clear hfo h1
        go_wp2_with (go_at_call 26; refine (HINNER.out w1 HD1.out a e hae heb).mono ?_; rintro r w' ⟨rfl, rfl⟩)
        go_meet
        exact ⟨by rw [HR.out], by rw [HR.out]; omega, by rw [HR.out]; omega, rfl⟩
    · have HR : Hid (F = (b.length : Int)) := by show _ = _; rw [HF.out, HPF.out, hfo]
      clear hfo
      go_wp2_with fail
      go_meet
      exact ⟨by rw [HR.out], by rw [HR.out]; omega, by rw [HR.out]; omega, rfl⟩
  case rest =>
    obtain ⟨rfl, hF0, hF1, rfl⟩ := hcut
    have hk1 := HKEY.out w1 HD1.out
    have c2 : w1.cell? ⟨kb, 2, none⟩ = some (.int .i64 (m : Int)) := Blk.cell hk1 2 rfl
    clear hk1
    go_upto_if 56 with fail
    go_cut [8, 9, 10, 11, 12, 13, 14] (fun s8 _s9 _s10 _s11 _s12 _s13 _s14 wx => s8 = .int .i64 T ∧ 0 ≤ T ∧ T ≤ b.length ∧ Drawn w wx)
    case first =>
      by_cases hm : 0 < m
      · have hm' : decide (0 < (m : Int)) = true := by simp; omega
        go_wp2_with fail
        refine (HFIELD.out w1 HD1.out m (by omega) (by omega)).mono ?_
        rintro e2 w2 ⟨⟨a2, e2, is2, hfi2, rfl⟩, hd2⟩
        have HFI2 := Lib.hid hfi2; clear hfi2
        have hd2' := HD1.out.trans hd2
        have HD2 := Lib.hid hd2'; clear hd2 hd2'
        have hk2 := HKEY.out w2 HD2.out
        have c3 : w2.cell? ⟨kb, 3, none⟩ = some (.int .i64 tc) := Blk.cell hk2 3 rfl
        have c4' : w2.cell? ⟨kb, 4, none⟩ = some (.int .i64 fl) := Blk.cell hk2 4 rfl
        clear hk2 c4 c1 c2
        rcases HFI2.out with ⟨rfl, hfo2⟩ | ⟨rfl, hfo2⟩
        · obtain ⟨hae, heb⟩ := HBT.out a2 e2 (Nat.zero_le _) hfo2
          by_cases htc : 0 < tc
          · have htc' : decide (0 < tc) = true := by simp; omega
            by_cases h1 : bits .and .i64 fl 2 = 0
            · have h1' : (bits .and .i64 fl 2 == 0) = true := by simpa using h1
              have HR : Hid (T = min (b.length : Int) ((a2 : Int) + tc)) := by show _ = _; rw [HT.out, HPT.out, if_pos (by omega), hfo2]; simp [Ord.has, h1, htc]
              clear hfo2 h1
              go_wp2_with fail
              go_meet
              exact ⟨by rw [HR.out], by rw [HR.out]; omega, by rw [HR.out]; omega, HD2.out⟩
            · have h1' : (bits .and .i64 fl 2 == 0) = false := by simpa using h1
              have HR : Hid (T = min (b.length : Int) ((Ord.inner b a2 e2 : Int) + tc)) := by show _ = _; rw [HT.out, HPT.out, if_pos (by omega), hfo2]; simp [Ord.has, h1, htc]
              have hi1 := Ord.inner_le b a2 e2 hae
              clear hfo2 h1
              go_wp2_with (go_at_call 26; refine (HINNER.out w2 HD2.out a2 e2 hae heb).mono ?_; rintro r w' ⟨rfl, rfl⟩)
              go_meet
              exact ⟨by rw [HR.out], by rw [HR.out]; omega, by rw [HR.out]; omega, HD2.out⟩
          · have htc' : decide (0 < tc) = false := by simp; omega
            have HR : Hid (T = (e2 : Int)) := by show _ = _; rw [HT.out, HPT.out, if_pos (by omega), hfo2]; simp [htc]
            clear hfo2
            go_wp2_with fail
            go_meet
            exact ⟨by rw [HR.out], by rw [HR.out]; omega, by rw [HR.out]; omega, HD2.out⟩
        · have HR : Hid (T = (b.length : Int)) := by show _ = _; rw [HT.out, HPT.out, if_pos (by omega), hfo2]
          clear hfo2
          go_wp2_with fail
          go_meet
          exact ⟨by rw [HR.out], by rw [HR.out]; omega, by rw [HR.out]; omega, HD2.out⟩
      · have HR : Hid (T = (b.length : Int)) := by show _ = _; rw [HT.out, HPT.out, if_neg (by omega)]
        obtain rfl : m = 0 := by omega
        go_wp2_with fail
        go_meet
        exact ⟨by rw [HR.out], by rw [HR.out]; omega, by rw [HR.out]; omega, HD1.out⟩
    case rest =>
      obtain ⟨rfl, hT0, hT1, hd⟩ := hcut
      obtain ⟨F, rfl⟩ := Int.eq_ofNat_of_zero_le hF0
      obtain ⟨T, rfl⟩ := Int.eq_ofNat_of_zero_le hT0
      have HD := Lib.hid hd; clear hd
      by_cases hTF : (T : Int) ≤ F
      · go_wp2_with fail
        go_ret
        refine ⟨?_, HD.out⟩
        rw [HV.out, if_pos (by omega)]
        rfl
      · have hrc := fun w => run_cut2 p b.length cap F T (by omega) (by omega) w
        go_wp2_with fail
        go_ret
        refine ⟨?_, HD.out⟩
        rw [HV.out, if_neg (by omega)]
        rfl

end Go.Proofs.YtnhopkjichgckaaDoor
