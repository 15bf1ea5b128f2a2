/-
  Texts of this seat put together: StRef, Rp1, Rp2, Rp3.
-/
import Derived.Test.YtihigdcfibjbpaaGreatDoorQ24
import Derived.Test.YtihigdcfibjbpaaGreatDoorQ6
import Derived.Test.YtihigdcfibjbpaaGreatDoorQ5
import Derived.Test.YtihigdcfibjbpaaGreatDoorQ3
import Derived.Tactics
import Derived.Tactics2
import Derived.Defers
import Derived.Laws.Pointers
import Derived.Laws.LoneSync
import Derived.RegionTactic
import Derived.RegionCalls
import Derived.ChangeAlike
import Derived.Laws.EntriesVeiled
import Derived.Test.YtihigdcfibjbpaaGreatDoorQ11
import Derived.Lib.Small
import Derived.Deep.MidRow

/-
  The walks of the document's Stops and Next. Condition: lengths, columns that are not negative.
-/
namespace Go.Proofs.YtihigdcfibjbpaaGreatDoor
open Go.RowKit Go.Shelf Go.Maps

/-- What reading a list of stops hands back. -/
def StopsPost (r : Option (List Int)) (w : World) (e : Ending) (w' : World) : Prop := Below w.heap.size w w' ∧ ((r = none ∧ e = .returned (.tuple #[.slice none 0 0, .bool false])) ∨ ∃ l v, r = some l ∧ e = .returned (.tuple #[v, .bool true]) ∧ w'.ownsRow w.heap.size 3 1 v l.length (l.map intV))
theorem extract_mid (l : List UInt8) (a b : Nat) : (⟨l.toArray⟩ : ByteArray).extract a b = ⟨((l.drop a).take (b - a)).toArray⟩ := by
  apply ByteArray.ext; simp [ByteArray.data_extract]
theorem ints_shape {w : World} {B n : Nat} {v : Value} {xs : List Value} (h : w.ownsRow B 3 1 v n xs) : ∃ p c, v = .slice p n c := by
  rcases h.2 with ⟨h1, h2⟩ | ⟨g, cap, cur, e, -⟩
  · exact ⟨none, 0, by rw [h1, h2]⟩
  · exact ⟨_, _, e⟩
theorem ints_last {w : World} {B : Nat} {v : Value} {out : List Int} (h : w.ownsRow B 3 1 v out.length (out.map intV)) (h0 : out ≠ []) : ∃ g c, v = .slice (some ⟨g, 0, none⟩) out.length c ∧ w.cell? ⟨g, out.length - 1, none⟩ = some (.int .i64 (out.getLastD 0)) ∧ out.length ≤ c := by
  obtain ⟨m, hm⟩ : ∃ m, out.length = m + 1 := ⟨out.length - 1, by have := List.length_pos_iff.2 h0; omega⟩
  have h2 := h
  rw [hm] at h2
  obtain ⟨g, c, e⟩ := own_slice h2
  refine ⟨g, c, by rw [hm]; exact e, ?_, ?_⟩
  · rw [e] at h2
    have h3 := h2.cellAt m (by omega)
    rw [hm, Nat.add_sub_cancel, h3, List.getElem?_map, List.getElem?_eq_getElem (by omega)]
    have : out.getLastD 0 = out[m] := by
      have e9 : out.length - 1 = m := by omega
      rw [List.getLastD_eq_getLast?, List.getLast?_eq_getElem?, e9, List.getElem?_eq_getElem (by omega)]
      rfl
    rw [this]
    rfl
  · rcases h2.2 with ⟨h1, h2⟩ | ⟨g', cap, cur, e', -, -, hc, -⟩
    · omega
    · rw [e] at e'; injection e' with _ _ e3; omega

set_option maxRecDepth 100000 in
set_option maxHeartbeats 8000000 in
theorem rstops_any (s : Bts) (hl : s.length < 1073741824) (w : World) :
    Calls Tryz.prog 9 #[.string ⟨s.toArray⟩] w fun e w' => StopsPost (Wi.stopsOf 2147483647 s) w e w' := by
  obtain ⟨R, hR⟩ : ∃ R, Wi.stopsOf 2147483647 s = R := ⟨_, rfl⟩
  rw [hR]
  obtain ⟨i0, hi, hz0, hz1, hz2⟩ := info_parts info_int
  go_enter Tryz.func9, Tryz.ntmps9
  go_wp2_with fail
  go_loopw [4, 5, 6, 7, 8] (fun x4 x5 x6 _x7 _x8 wr => ∃ (k a : Nat) (out : List Int), k ≤ s.length + 1 ∧ a ≤ k ∧ out.length ≤ k ∧ x6 = .int .i64 k ∧ x5 = .int .i64 a ∧ Hid (wr.ownsRow w.heap.size 3 1 x4 out.length (out.map intV)) ∧ Hid (Below w.heap.size w wr) ∧ Hid (∀ j, a ≤ j → j < k → Wi.sepB (s.getD j 0) = false) ∧ Hid (k ≤ s.length → Wi.stopsGo 2147483647 out (Wi.partsBy Wi.sepB (s.drop a)) = R) ∧ Hid (k = s.length + 1 → some out = R)) (fun _ _ x6 _ _ _ => s.length + 1 - (intOf x6).toNat)
  case atStart => exact ⟨0, 0, [], Nat.zero_le _, Nat.le_refl _, Nat.le_refl _, rfl, rfl, Lib.hid (World.ownsRow_nil _ _ _ _), Lib.hid (Below.refl _ _), Lib.hid (fun j _ h => by omega), Lib.hid (fun _ => by rw [List.drop_zero]; exact hR), Lib.hid (fun h => by omega)⟩
  case round =>
    obtain ⟨k, a, out, hk, hak, hok, rfl, rfl, HO, HB, HN, HR1, HR2⟩ := hrel
    obtain ⟨p, c, rfl⟩ := ints_shape HO.out
    by_cases hend : k = s.length + 1
    · have hR3 := HR2.out hend
      have HR3 := Lib.hid hR3
      have e1 : decide ((k : Int) ≤ s.length) = false := by simp; omega
      have e2 : decide (k ≤ s.length) = false := by simp; omega
      clear hR3 hR
      go_wp2_with fail
      go_ret2
      exact ⟨HB.out, .inr ⟨out, _, HR3.out.symm, rfl, HO.out⟩⟩
    · have hkl : k ≤ s.length := by omega
      have e1 : decide ((k : Int) ≤ s.length) = true := by simp; omega
      have e2 : decide (k ≤ s.length) = true := by simp; omega
      obtain ⟨bb, hbb⟩ : ∃ bb, (decide (k < s.length) && !Wi.sepB (s.getD k 0)) = bb := ⟨_, rfl⟩
      have HBB := Lib.hid hbb
      clear hR
      go_upto_region 6 with fail
      go_cut [15, 16, 17, 18, 19, 20, 21, 22, 23, 24, 25, 26, 27, 28, 29, 30, 31, 32, 33, 34, 35, 36] (fun _ _ _ _ _ _ _ _ _ _ _ _ _ _ _ _ _ _ _ _ _ x36 wx => x36 = .bool bb ∧ wx = wr)
      case first =>
        by_cases hlt : k < s.length
        · have g1 : decide ((k : Int) < s.length) = true := by simp; omega
          have g2 : (0 : Int) ≤ k := by omega
          have g3 : (k : Int) < s.length := by omega
          have hgd : s.getD k 0 = s[k] := by rw [List.getD_eq_getElem?_getD, List.getElem?_eq_getElem hlt]; rfl
          rw [decide_eq_true hlt, Bool.true_and, hgd] at hbb
          obtain ⟨x, hx, i0⟩ : ∃ x, s[k] = x ∧ ∀ h, (⟨s.toArray⟩ : ByteArray)[k]'h = x := ⟨s[k], rfl, fun _ => rfl⟩
          rw [hx] at hbb
          clear hx hgd
          by_cases x1 : x = 44
          · subst x1
            have : bb = false := by rw [← hbb]; rfl
            subst this
            clear hbb
            go_wp2_with fail
            go_meet
            exact ⟨rfl, rfl⟩
          · by_cases x2 : x = 32
            · subst x2
              have : bb = false := by rw [← hbb]; rfl
              subst this
              clear hbb x1
              go_wp2_with fail
              go_meet
              exact ⟨rfl, rfl⟩
            · by_cases x3 : x = 9
              · subst x3
                have : bb = false := by rw [← hbb]; rfl
                subst this
                clear hbb x1 x2
                go_wp2_with fail
                go_meet
                exact ⟨rfl, rfl⟩
              · have : bb = true := by rw [← hbb]; simp [Wi.sepB, x1, x2, x3]
                subst this
                have y1 : ((x.toNat : Int) != 44) = true := by simpa using u8_lit (n := 44) x1 (by decide)
                have y2 : ((x.toNat : Int) != 32) = true := by simpa using u8_lit (n := 32) x2 (by decide)
                have y3 : ((x.toNat : Int) != 9) = true := by simpa using u8_lit (n := 9) x3 (by decide)
                clear hbb x1 x2 x3
                go_wp2_with fail
                go_meet
                exact ⟨rfl, rfl⟩
        · have g1 : decide ((k : Int) < s.length) = false := by simp; omega
          have g2 : decide (k < s.length) = false := by simp; omega
          have : bb = false := by rw [← hbb, g2]; rfl
          subst this
          clear hbb
          go_wp2_with fail
          go_meet
          exact ⟨rfl, rfl⟩
      case rest =>
        obtain ⟨rfl, rfl⟩ := hcut
        clear hbb
        cases bb with
        | true =>
          have hlt : k < s.length := by
            have := HBB.out
            simp only [Bool.and_eq_true, decide_eq_true_eq] at this
            exact this.1
          have hsf : Wi.sepB (s.getD k 0) = false := by
            have := HBB.out
            simp only [Bool.and_eq_true, Bool.not_eq_true'] at this
            exact this.2
          have HSF := Lib.hid hsf
          clear hsf
          go_wp2_with fail
          go_roundw
          case rel => exact ⟨k + 1, a, out, by omega, by omega, by omega, by go_num, rfl, HO, HB, Lib.hid (fun j h1 h2 => by
            rcases Nat.lt_or_ge j k with h3 | h3
            · exact HN.out j h1 h3
            · have : j = k := by omega
              rw [this]; exact HSF.out), Lib.hid (fun _ => HR1.out hkl), Lib.hid (fun h => by omega)⟩
          case measure => simp [intOf]; omega
        | false =>
          obtain ⟨P, hP⟩ : ∃ P, (s.drop a).take (k - a) = P := ⟨_, rfl⟩
          obtain ⟨Q, hQ1, hQ2, hQ3⟩ : ∃ Q, Wi.partsBy Wi.sepB (s.drop a) = P :: Q ∧ (k < s.length → Q = Wi.partsBy Wi.sepB (s.drop (k + 1))) ∧ (k = s.length → Q = []) := by
            by_cases hlt : k < s.length
            · have hs : Wi.sepB (s.getD k 0) = true := by
                have := HBB.out
                rw [decide_eq_true hlt, Bool.true_and] at this
                simpa using this
              exact ⟨_, by rw [← hP]; exact Wi.stops_at s a k hak hlt HN.out hs, fun _ => rfl, fun h => by omega⟩
            · refine ⟨[], ?_, fun h => absurd h hlt, fun _ => rfl⟩
              rw [← hP, Wi.stops_end s a fun j h1 h2 => HN.out j h1 (by omega), List.take_of_length_le (by rw [List.length_drop]; omega)]
          have hgo := HR1.out hkl
          rw [hQ1] at hgo
          have HGO := Lib.hid hgo
          have HQ := Lib.hid (And.intro hQ2 hQ3)
          have hPl : P.length < 1073741824 := by rw [← hP, List.length_take, List.length_drop]; omega
          have hnum := rnum_any P hPl wc
          have hex : (⟨s.toArray⟩ : ByteArray).extract a k = ⟨P.toArray⟩ := by rw [extract_mid, hP]
          rw [← hex] at hnum
          have f1 : (0 : Int) ≤ a := by omega
          have f2 : (a : Int) ≤ k := by omega
          have f3 : (k : Int) ≤ s.length := by omega
          have HEX := Lib.hid hex
          clear hgo hQ1 hQ2 hQ3 hP hPl hex
          cases hN : Ord.number P 2147483647 with
          | none =>
            have hv : numVal P 2147483647 = .tuple #[.int .i64 0, .bool false] := by unfold numVal; rw [hN]
            rw [hv] at hnum
            have hR4 : R = none := by rw [← HGO.out]; exact Wi.stopsGo_bad _ _ _ _ hN
            have HR4 := Lib.hid hR4
            clear hv hN hR4
            go_wp2_with fail
            refine hnum.mono ?_
            rintro e w3 ⟨rfl, rfl⟩
            clear hnum
            go_wp2_with fail
            go_ret2
            exact ⟨HB.out, .inl ⟨HR4.out, rfl⟩⟩
          | some n =>
            have hv : numVal P 2147483647 = .tuple #[.int .i64 n, .bool true] := by unfold numVal; rw [hN]
            rw [hv] at hnum
            have HNN := Lib.hid hN
            clear hv hN
            go_wp2_with fail
            refine hnum.mono ?_
            rintro e w3 ⟨rfl, rfl⟩
            clear hnum
            by_cases hn1 : n < 1
            · have g1 : decide (n < 1) = true := by simpa using hn1
              have hR4 : R = none := by rw [← HGO.out]; exact Wi.stopsGo_low _ _ _ _ n HNN.out (.inl hn1)
              have HR4 := Lib.hid hR4
              clear hn1 hR4
              go_wp2_with fail
              go_ret2
              exact ⟨HB.out, .inl ⟨HR4.out, rfl⟩⟩
            · have g1 : decide (n < 1) = false := by simpa using hn1
              have HN1 := Lib.hid hn1
              clear hn1
              by_cases h0 : out = []
              · subst h0
                have hgood : Wi.stopsGo 2147483647 ([] ++ [n]) Q = R := by rw [← HGO.out, Wi.stopsGo_good _ _ _ _ n HNN.out (by have := HN1.out; omega) (.inl rfl)]
                have HGOOD := Lib.hid hgood
                clear hgood
                simp only [List.length_nil, List.map_nil] at *
                go_wp2_with (at_builtin; refine wpList_append_own _ rfl _ _ 22 rfl w.heap.size 3 i0 (.int .i64 0) 1 8 Tryz.underlying22 hi hz0 hz1 hz2 rfl (by decide) _ _ _ rfl (HO.out.alloc _) ⟨w3.heap.size, 0, none⟩ 1 1 [.int .i64 n] rfl rfl (cell_one_new _ _ _) (by simp [Value.oneCell']) (by unfold maxLen; first | omega | (simp <;> omega)) (by first | omega | (simp <;> omega)) (by have := HB.out.size; simp <;> omega) ?_; intro v' w5 hown' hgrow _)
                have hb5 : Below w.heap.size w w5 := (HB.out.alloc HB.out.size _).grown hgrow (by have := HB.out.size; simp <;> omega) fun j hj => (HO.out.lt j hj).1
                go_roundw
                case rel => exact ⟨k + 1, k + 1, [n], by omega, Nat.le_refl _, by simp, by go_num, by go_num, Lib.hid (by simpa [intV] using hown'), Lib.hid hb5, Lib.hid (fun j h1 h2 => by omega), Lib.hid (fun h => by have := HGOOD.out; rw [HQ.out.1 (by omega)] at this; exact this), Lib.hid (fun h => by have := HGOOD.out; rw [HQ.out.2 (by omega)] at this; exact this)⟩
                case measure => simp [intOf]; omega
              · obtain ⟨g, c', he, hcl, hcc⟩ := ints_last HO.out h0
                injection he with he1 _ he3
                subst he1 he3
                have h1l : 0 < out.length := List.length_pos_iff.2 h0
                have q1 : decide ((0 : Int) < out.length) = true := by simp; omega
                have q2 : decide (0 < out.length) = true := by simp; omega
                have q3 : IntKind.i64.wrap ((out.length : Int) - 1) = ((out.length - 1 : Nat) : Int) := by rw [IntKind.wrap_i64]; omega
                have q4 : wrap64 ((out.length : Int) - 1) = ((out.length - 1 : Nat) : Int) := by rw [wrap64]; omega
                have q5 : ((out.length - 1 : Nat) : Int) < (out.length : Int) := by omega
                have q6 : out.length - 1 < out.length := by omega
                by_cases hlow : n ≤ out.getLastD 0
                · have hR4 : R = none := by rw [← HGO.out]; exact Wi.stopsGo_low _ _ _ _ n HNN.out (.inr ⟨h0, hlow⟩)
                  have HR4 := Lib.hid hR4
                  have q7 : decide (n ≤ out.getLastD 0) = true := by simpa using hlow
                  obtain ⟨la, hla⟩ : ∃ la, out.getLastD 0 = la := ⟨_, rfl⟩
                  rw [hla] at hcl q7
                  clear hlow hR4 h0 hla
                  go_wp2_with fail
                  go_ret2
                  exact ⟨HB.out, .inl ⟨HR4.out, rfl⟩⟩
                · have hgood : Wi.stopsGo 2147483647 (out ++ [n]) Q = R := by rw [← HGO.out, Wi.stopsGo_good _ _ _ _ n HNN.out (by have := HN1.out; omega) (.inr (by omega))]
                  have HGOOD := Lib.hid hgood
                  have q7 : decide (n ≤ out.getLastD 0) = false := by simpa using hlow
                  obtain ⟨la, hla⟩ : ∃ la, out.getLastD 0 = la := ⟨_, rfl⟩
                  rw [hla] at hcl q7
                  clear hlow hgood h0 hla
                  go_wp2_with (at_builtin; refine wpList_append_own _ rfl _ _ 22 rfl w.heap.size 3 i0 (.int .i64 0) 1 8 Tryz.underlying22 hi hz0 hz1 hz2 rfl (by decide) _ _ _ rfl (HO.out.alloc _) ⟨w3.heap.size, 0, none⟩ 1 1 [.int .i64 n] rfl rfl (cell_one_new _ _ _) (by simp [Value.oneCell']) (by unfold maxLen; first | omega | (simp <;> omega)) (by first | omega | (simp <;> omega)) (by have := HB.out.size; simp <;> omega) ?_; intro v' w5 hown' hgrow _)
                  have hb5 : Below w.heap.size w w5 := (HB.out.alloc HB.out.size _).grown hgrow (by have := HB.out.size; simp <;> omega) fun j hj => (HO.out.lt j hj).1
                  go_roundw
                  case rel => exact ⟨k + 1, k + 1, out ++ [n], by omega, Nat.le_refl _, by simp; omega, by go_num, by go_num, Lib.hid (by simpa [intV] using hown'), Lib.hid hb5, Lib.hid (fun j h1 h2 => by omega), Lib.hid (fun h => by have := HGOOD.out; rw [HQ.out.1 (by omega)] at this; exact this), Lib.hid (fun h => by have := HGOOD.out; rw [HQ.out.2 (by omega)] at this; exact this)⟩
                  case measure => simp [intOf]; omega

end Go.Proofs.YtihigdcfibjbpaaGreatDoor

/-
  The walks of sync.Once.Do's parts, once and alone: load, store, lock, unlock. No condition beside the cells. (After the kit's worked proof of a once.)
-/
namespace Go.Proofs.YtihigdcfibjbpaaGreatDoor.Rp
open Go.RowKit Go.Shelf

theorem disable (w : World) : (callFunc 189 #[]).run Tryz.prog w = .ok (.value (.tuple #[])) w := run_call_mark0 Tryz.func189 (by kernel_rfl) (by kernel_rfl) (by kernel_rfl) .disable (by kernel_rfl) w
theorem enable (w : World) : (callFunc 191 #[]).run Tryz.prog w = .ok (.value (.tuple #[])) w := run_call_mark0 Tryz.func191 (by kernel_rfl) (by kernel_rfl) (by kernel_rfl) .enable (by kernel_rfl) w
theorem acquire (a : Addr) (w : World) : (callFunc 192 #[.pointer (some a)]).run Tryz.prog w = .ok (.value (.tuple #[])) w := run_call_marked Tryz.func192 (by kernel_rfl) (by kernel_rfl) (by kernel_rfl) .acquire (by kernel_rfl) a w
theorem releaseMerge (a : Addr) (w : World) : (callFunc 194 #[.pointer (some a)]).run Tryz.prog w = .ok (.value (.tuple #[])) w := run_call_marked Tryz.func194 (by kernel_rfl) (by kernel_rfl) (by kernel_rfl) .releaseMerge (by kernel_rfl) a w

theorem load_any (a : Addr) (x : Int) (w : World) (hc : w.cell? a = some (.int .u32 x)) :
    Calls Tryz.prog 48 #[.pointer (some a)] w fun e w' => e = .returned (.bool (x != 0)) ∧ w' = w := by
  have hl := run_call_load (P := Tryz.prog) Tryz.func83 (by kernel_rfl) (by kernel_rfl) (by kernel_rfl) .u32 (by kernel_rfl) hc
  go_enter Tryz.func48, Tryz.ntmps48
  go_wp2_with fail
  go_ret
  exact ⟨rfl, rfl⟩

theorem b32_true (w : World) : Calls Tryz.prog 138 #[.bool true] w fun e w' => e = .returned (.int .u32 1) ∧ w' = w := by
  go_enter Tryz.func138, Tryz.ntmps138
  go_wp2_with fail
  go_ret
  exact ⟨rfl, rfl⟩

set_option maxRecDepth 100000 in
set_option maxHeartbeats 1600000 in
/-- Store(true), entered as a deferred call: the cell holds 1. -/
theorem store_deferred (a : Addr) (x : Value) (u : FrameMode) (w : World) (hc : w.cell? a = some x) (hz : w.frozen? a = false) :
    CallsD Tryz.prog 86 #[.pointer (some a), .bool true] u w fun e u' w' => u' = u ∧ (e = .returned (.tuple #[]) ∧ w' = w.drew.setCell a (.int .u32 1)) := by
  have hc' : w.drew.cell? a = some x := by go_simp
  have hz' : w.drew.frozen? a = false := by go_simp
  have hst := run_call_store (P := Tryz.prog) Tryz.func137 (by kernel_rfl) (by kernel_rfl) (by kernel_rfl) (by kernel_rfl) (k := .u32) (y := 1) hc' hz'
  go_enter_d Tryz.func86, Tryz.ntmps86
  go_wp2
  go_region_calls
  all_goals (go_end0; exact ⟨rfl, rfl⟩)

set_option maxRecDepth 100000 in
set_option maxHeartbeats 1600000 in
/-- Unlock, entered as a deferred call, the lock held and nobody waiting. -/
theorem unlock_deferred (a : Addr) (u : FrameMode) (w : World) (hc : w.cell? a = some (.int .i32 1)) (hz : w.frozen? a = false) :
    CallsD Tryz.prog 85 #[.pointer (some a)] u w fun e u' w' => u' = u ∧ (e = .returned (.tuple #[]) ∧ w' = w.setCell a (.int .i32 0)) := by
  have hd := disable
  have he := enable
  have hr := releaseMerge
  have hadd := run_call_add (P := Tryz.prog) Tryz.func195 (by kernel_rfl) (by kernel_rfl) (by kernel_rfl) .i32 (by kernel_rfl) (y := -1) (s := 0) hc hz (by simp [go_sem]; rfl)
  have hcv := run_convert_to_unsafe (P := Tryz.prog) (src := 317) (dst := 321) Tryz.underlying317 Tryz.underlying321 (by kernel_rfl) hc
  go_enter_d Tryz.func85, Tryz.ntmps85
  go_wp2
  go_end0
  go_wp2

set_option maxRecDepth 100000 in
set_option maxHeartbeats 1600000 in
/-- Lock, the lock free. -/
theorem lock_free (a : Addr) (w : World) (hc : w.cell? a = some (.int .i32 0)) (hz : w.frozen? a = false) :
    Calls Tryz.prog 84 #[.pointer (some a)] w fun e w' => e = .returned (.tuple #[]) ∧ w' = w.setCell a (.int .i32 1) := by
  have hd := disable
  have he := enable
  have ha := acquire
  have hcas := run_call_cas_hit (P := Tryz.prog) Tryz.func190 (by kernel_rfl) (by kernel_rfl) (by kernel_rfl) .i32 (by kernel_rfl) (y := 1) hc hz
  have hc' : (w.setCell a (.int .i32 1)).cell? a = some (.int .i32 1) := World.cell?_setCell_same w a _ hc
  have hcv := run_convert_to_unsafe (P := Tryz.prog) (src := 317) (dst := 321) Tryz.underlying317 Tryz.underlying321 (by kernel_rfl) hc'
  go_enter Tryz.func84, Tryz.ntmps84
  go_wp2
  first | go_end0 | (simp only [Exit.inBlock, Exit.then]; refine bodyPost_ret (results_none rfl _ _ _) rfl ?_) | refine bodyPost_ret (results_none rfl _ _ _) rfl ?_
  go_wp2

end Go.Proofs.YtihigdcfibjbpaaGreatDoor.Rp

/-
  The walks of strings.NewReplacer and of the replacer's build, of blanks by commas. No condition beside the cells.
-/
namespace Go.Proofs.YtihigdcfibjbpaaGreatDoor.Rp
open Go.RowKit Go.Shelf

/-- What the replacer's table holds. -/
def rep (c : UInt8) : UInt8 := if c = 32 ∨ c = 9 then 44 else c
def olds : List Bts := [[32], [44], [9], [44]]

theorem info_string : (Tryz.prog.info? 9).map (fun i => (i.zero, i.size, i.bytes)) = some (some (.string ByteArray.empty), 1, 16) := by kernel_rfl

set_option maxRecDepth 100000 in
set_option maxHeartbeats 4000000 in
theorem newRep_any (b o c : Nat) (w : World) (hc : ∀ i, i < 4 → w.cell? ⟨b, o + i, none⟩ = some (strV (olds.getD i []))) :
    Calls Tryz.prog 19 #[.slice (some ⟨b, o, none⟩) 4 c] w fun e w' => ∃ r v, e = .returned (.pointer (some ⟨r, 0, none⟩)) ∧ w.heap.size ≤ r ∧ Blk w' r #[.int .u32 0, .int .i32 0, .int .u32 0, .nilIface, v] 84 ∧ w'.ownsRow w.heap.size 9 1 v 4 (olds.map strV) ∧ Below w.heap.size w w' := by
  obtain ⟨i0, hi, hz0, hz1, hz2⟩ := info_parts info_string
  have HN : Hid (∀ j u, (olds.map strV)[j]? = some u → w.cell? ((⟨b, o, none⟩ : Addr).add j) = some u) := Lib.hid (by
    intro j u hu
    have hj : j < 4 := by
      rcases Nat.lt_or_ge j 4 with h | h
      · exact h
      · rw [List.getElem?_eq_none (by simpa [olds] using h)] at hu; cases hu
    rw [show ((⟨b, o, none⟩ : Addr).add j) = ⟨b, o + j, none⟩ by simp only [Addr.add]; split <;> simp_all, hc j hj]
    have hj2 : j < olds.length := hj
    rw [List.getElem?_map, List.getElem?_eq_getElem hj2] at hu
    rw [List.getD_eq_getElem?_getD, List.getElem?_eq_getElem hj2]
    exact hu)
  clear hc
  go_enter Tryz.func19, Tryz.ntmps19
  go_wp2_with (at_builtin; refine wpList_append_own _ rfl _ _ 33 rfl w.heap.size 9 i0 (.string ByteArray.empty) 1 16 Tryz.underlying33 hi hz0 hz1 hz2 rfl (by decide) (.slice none 0 0) 0 [] rfl (World.ownsRow_nil _ _ _ _) ⟨b, o, none⟩ 4 c (olds.map strV) rfl rfl HN.out (by simp [olds, strV, Value.oneCell']) (by decide) (by decide) (Nat.le_refl _) ?_; intro v w1 hown hgrow _; obtain ⟨gg, cp, rfl⟩ := own_slice (n := 3) hown)
  have hb1 : Below w.heap.size w w1 := (Below.refl _ w).grown hgrow (Nat.le_refl _) (fun j hj => by cases hj)
  have hown2 : w1.ownsRow w.heap.size 9 1 (.slice (some ⟨gg, 0, none⟩) 4 cp) 4 (olds.map strV) := by simpa using hown
  go_ret
  exact ⟨_, rfl, hb1.size, _, Blk.new _ _ _, own_kept hown2 (Kept.of_below (S := fun _ => False) ((Below.refl _ w1).alloc (Nat.le_refl _) _)) fun _ _ h => h, hb1.alloc hb1.size _⟩

/-- The table, so many places of it filled. -/
def tabN (k : Nat) : Array Value := ((List.range 256).map fun j => Value.int .u8 (if j < k then (j : Int) else 0)).toArray
def tabR : Array Value := ((List.range 256).map fun j => Value.int .u8 ((rep (UInt8.ofNat j)).toNat : Int)).toArray
theorem tabN_size (k : Nat) : (tabN k).size = 256 := by simp [tabN]
theorem tabN_at (k j : Nat) (h : j < 256) : (tabN k)[j]? = some (.int .u8 (if j < k then (j : Int) else 0)) := by
  unfold tabN; simp [h]
theorem tabN_set (k : Nat) (hk : k < 256) : (tabN k).setIfInBounds k (.int .u8 k) = tabN (k + 1) := by
  apply Array.ext_getElem?
  intro i
  by_cases hi : i < 256
  · by_cases e : i = k
    · subst e
      rw [Array.getElem?_setIfInBounds_self_of_lt (by rw [tabN_size]; exact hi), tabN_at _ _ hi, if_pos (by omega)]
    · rw [Array.getElem?_setIfInBounds_ne (fun h => e h.symm), tabN_at _ _ hi, tabN_at _ _ hi]
      by_cases h1 : i < k
      · rw [if_pos h1, if_pos (by omega)]
      · rw [if_neg h1, if_neg (by omega)]
  · rw [Array.getElem?_eq_none (by simp [tabN_size]; omega), Array.getElem?_eq_none (by simp [tabN_size]; omega)]
theorem tabR_at (j : Nat) (h : j < 256) : tabR[j]? = some (.int .u8 ((rep (UInt8.ofNat j)).toNat : Int)) := by
  unfold tabR; simp [h]
theorem tabR_size : tabR.size = 256 := by simp [tabR]
theorem tab_end : ((tabN 256).setIfInBounds 9 (.int .u8 44)).setIfInBounds 32 (.int .u8 44) = tabR := by
  apply Array.ext_getElem?
  intro i
  by_cases hi : i < 256
  · rw [tabR_at i hi]
    by_cases h1 : i = 32
    · subst h1
      rw [Array.getElem?_setIfInBounds_self_of_lt (by simp [tabN_size])]; rfl
    · rw [Array.getElem?_setIfInBounds_ne (fun h => h1 h.symm)]
      by_cases h2 : i = 9
      · subst h2
        rw [Array.getElem?_setIfInBounds_self_of_lt (by simp [tabN_size])]; rfl
      · rw [Array.getElem?_setIfInBounds_ne (fun h => h2 h.symm), tabN_at _ _ hi, if_pos hi]
        have e1 : (UInt8.ofNat i).toNat = i := UInt8.toNat_ofNat_of_lt' hi
        have e2 : rep (UInt8.ofNat i) = UInt8.ofNat i := by
          unfold rep
          rw [if_neg]
          rintro (h | h)
          · exact h1 (by rw [← e1, h]; rfl)
          · exact h2 (by rw [← e1, h]; rfl)
        rw [e2, e1]
  · rw [Array.getElem?_eq_none (by simp [tabN_size]; omega), Array.getElem?_eq_none (by rw [tabR_size]; omega)]

set_option maxRecDepth 100000 in
set_option maxHeartbeats 8000000 in
theorem build_any (r : Nat) (x0 x1 x2 x3 v : Value) (B : Nat) (w : World) (hr : Blk w r #[x0, x1, x2, x3, v] 84) (ho : w.ownsRow B 9 1 v 4 (olds.map strV)) :
    Calls Tryz.prog 50 #[.pointer (some ⟨r, 0, none⟩)] w fun e w' => ∃ b, e = .returned (.iface 165 (.pointer (some ⟨b, 0, none⟩))) ∧ w.heap.size ≤ b ∧ Blk w' b tabR 164 ∧ Below w.heap.size w w' := by
  obtain ⟨g, c, rfl⟩ := own_slice (n := 3) ho
  have hglt := (ho.lt g rfl).2
  have r4 := hr.cell 4 (v := .slice (some ⟨g, 0, none⟩) 4 c) rfl
  have hcap : (4 : Nat) ≤ c := by
    rcases ho.2 with ⟨h, -⟩ | ⟨g', cap, cur, e, -, -, hc, -⟩
    · cases h
    · injection e with _ _ e; omega
  have a0 := ho.cellAt 0 (by decide)
  have a1 := ho.cellAt 1 (by decide)
  have a2 := ho.cellAt 2 (by decide)
  have a3 := ho.cellAt 3 (by decide)
  simp only [olds, strV, List.map_cons, List.map_nil, List.getElem?_cons_zero, List.getElem?_cons_succ] at a0 a1 a2 a3
  have H0 := Lib.hid a0
  have H1 := Lib.hid a1
  have H2 := Lib.hid a2
  have H3 := Lib.hid a3
  clear hr ho
  have hinfo : (Tryz.prog.info? 164).map (·.size) = some 256 := by kernel_rfl
  have hone : (Tryz.zeroCells164).all (·.oneCell') = true := by kernel_rfl
  have hzero : Tryz.zeroCells164 = tabN 0 := by kernel_rfl
  have HI := Lib.hid hinfo
  have HONE := Lib.hid hone
  have HZ := Lib.hid hzero
  clear hinfo hone hzero
  go_enter Tryz.func50, Tryz.ntmps50
  go_wp2_with fail
  go_loopw [4, 5] (fun x4 i wr => x4 = .bool true ∧ (i = .int .i64 0 ∨ i = .int .i64 2 ∨ i = .int .i64 4) ∧ wr = w) (fun _ i _ => 4 - (intOf i).toNat)
  case atStart => exact ⟨rfl, .inl rfl, rfl⟩
  case round =>
    obtain ⟨rfl, h, rfl⟩ := hrel
    rcases h with rfl | rfl | rfl
    · go_wp2_with fail
      go_roundw
      case rel => exact ⟨rfl, .inr (.inl rfl), by first | rfl | trivial⟩
      case measure => simp [intOf]
    · go_wp2_with fail
      go_roundw
      case rel => exact ⟨rfl, .inr (.inr rfl), by first | rfl | trivial⟩
      case measure => simp [intOf]
    · obtain ⟨wo, hwo⟩ : ∃ wo, wo = wr := ⟨_, rfl⟩
      subst hwo
      go_wp2_with (refine wpList_store_mid rfl 164 _ _ rfl wo.heap.size 0 _ rfl rfl (Blk.there (Blk.new wo _ _) _ (by decide)) HI.out HONE.out ?_; generalize hW : World.setCells _ wo.heap.size 0 _ = w2; refine Hid.out ?_)
      have hb2 : Blk w2 wo.heap.size (tabN 0) 164 := by rw [← hW, ← HZ.out]; exact Blk.setAll (Blk.new wo _ _) rfl
      have hbel : Below wo.heap.size wo w2 := by rw [← hW]; exact (Kept.setCells (S := fun _ => False) (.inr (Nat.le_refl _)) _ 0 _ ((Kept.refl _ wo).alloc _)).below
      clear hW
      have HB2 := Lib.hid hb2
      have HBL := Lib.hid hbel
      clear hb2 hbel
      refine Lib.hid ?_
      go_wp2_with fail
      go_loopw [7, 61] (fun _x7 x61 wr => ∃ k : Nat, k ≤ 256 ∧ x61 = .int .i64 k ∧ Hid (Blk wr wo.heap.size (tabN k) 164) ∧ Hid (Below wo.heap.size wo wr)) (fun _ x61 _ => 256 - (intOf x61).toNat)
      case atStart => exact ⟨0, Nat.zero_le _, rfl, HB2, HBL⟩
      case round =>
        clear HB2 HBL
        obtain ⟨k, hk, rfl, HB, HL⟩ := hrel
        by_cases hlt : k < 256
        · have e1 : decide ((k : Int) < 256) = true := by simp; omega
          have e2 : (k : Int) % 256 = k := by omega
          have c1 := HB.out.cell k (tabN_at k k hlt)
          have c2 := HB.out.free k
          have e3 : (0 : Int) ≤ k := by omega
          have e4 : (k : Int) < 256 := by omega
          go_wp2_with fail
          go_roundw
          case rel => exact ⟨k + 1, by omega, by go_num, Lib.hid (by rw [← tabN_set k hlt]; exact HB.out.set k _), Lib.hid (((Kept.of_below (S := fun _ => False) HL.out).setCell (.inr (Nat.le_refl _)) k _).below)⟩
          case measure => simp [intOf]; omega
        · obtain ⟨k256, hk2⟩ : ∃ k256 : Nat, k256 = k ∧ k256 = 256 := ⟨k, rfl, by omega⟩
          have HB256 : Hid (Blk wr wo.heap.size (tabN 256) 164) := by
            have : k = 256 := by omega
            rw [this] at HB; exact HB
          have e1 : decide ((k : Int) < 256) = false := by simp; omega
          obtain ⟨w5, hw5⟩ : ∃ w5, w5 = wr := ⟨_, rfl⟩
          subst hw5
          have b0 := Lib.hid ((HL.out.cell (p := ⟨g, 0, none⟩) hglt).trans H0.out)
          have b1 := Lib.hid ((HL.out.cell (p := ⟨g, 1, none⟩) hglt).trans H1.out)
          have b2 := Lib.hid ((HL.out.cell (p := ⟨g, 2, none⟩) hglt).trans H2.out)
          have b3 := Lib.hid ((HL.out.cell (p := ⟨g, 3, none⟩) hglt).trans H3.out)
          clear a0 a1 a2 a3 r4 HB hk2
          go_wp2_with fail
          go_loopw [8, 9, 10] (fun x8 _x9 _x10 wr => ((x8 = .int .i64 2 ∧ Hid (Blk wr wo.heap.size (tabN 256) 164)) ∨ (x8 = .int .i64 0 ∧ Hid (Blk wr wo.heap.size ((tabN 256).setIfInBounds 9 (.int .u8 44)) 164)) ∨ (x8 = .int .i64 (-2) ∧ Hid (Blk wr wo.heap.size tabR 164))) ∧ Hid (Below wo.heap.size wo wr)) (fun x8 _ _ _ => (intOf x8 + 2).toNat)
          case atStart => exact ⟨.inl ⟨rfl, HB256⟩, HL⟩
          case round =>
            clear HB256 HL b0 b1 b2 b3
            obtain ⟨h, HL⟩ := hrel
            have a0 := (HL.out.cell (p := ⟨g, 0, none⟩) hglt).trans H0.out
            have a1 := (HL.out.cell (p := ⟨g, 1, none⟩) hglt).trans H1.out
            have a2 := (HL.out.cell (p := ⟨g, 2, none⟩) hglt).trans H2.out
            have a3 := (HL.out.cell (p := ⟨g, 3, none⟩) hglt).trans H3.out
            have i1 : ∀ h, (⟨#[9]⟩ : ByteArray)[0]'h = 9 := fun _ => rfl
            have i2 : ∀ h, (⟨#[32]⟩ : ByteArray)[0]'h = 32 := fun _ => rfl
            have i3 : ∀ h, (⟨#[44]⟩ : ByteArray)[0]'h = 44 := fun _ => rfl
            rcases h with ⟨rfl, HB⟩ | ⟨rfl, HB⟩ | ⟨rfl, HB⟩
            · have c1 := HB.out.cell 9 (tabN_at 256 9 (by decide))
              have c2 := HB.out.free 9
              go_wp2_with fail
              go_roundw
              case rel => exact ⟨.inr (.inl ⟨by go_num, Lib.hid (HB.out.set 9 _)⟩), Lib.hid (((Kept.of_below (S := fun _ => False) HL.out).setCell (.inr (Nat.le_refl _)) 9 _).below)⟩
              case measure => simp [intOf]
            · have c1 := HB.out.cell 32 (by rw [Array.getElem?_setIfInBounds_ne (by decide)]; exact tabN_at 256 32 (by decide))
              have c2 := HB.out.free 32
              go_wp2_with fail
              go_roundw
              case rel => exact ⟨.inr (.inr ⟨by go_num, Lib.hid (by rw [← tab_end]; exact HB.out.set 32 _)⟩), Lib.hid (((Kept.of_below (S := fun _ => False) HL.out).setCell (.inr (Nat.le_refl _)) 32 _).below)⟩
              case measure => simp [intOf]
            · go_wp2_with fail
              go_ret
              exact ⟨_, rfl, Nat.le_refl _, HB.out, HL.out⟩

end Go.Proofs.YtihigdcfibjbpaaGreatDoor.Rp

/-
  The walk of a replacer's Replace: blanks by commas. Condition: lengths.
-/
namespace Go.Proofs.YtihigdcfibjbpaaGreatDoor.Rp
open Go.RowKit Go.Shelf

/-- Bytes that lie in a block and may be turned. -/
def RowB (W : World) (g : Nat) (l : Bts) : Prop := ∀ j, j < l.length → W.cell? ⟨g, j, none⟩ = some (.int .u8 (l.getD j 0).toNat) ∧ W.frozen? ⟨g, j, none⟩ = false
theorem RowB.set {W : World} {g : Nat} {l : Bts} (h : RowB W g l) (k : Nat) (hk : k < l.length) (c : UInt8) : RowB (W.setCell ⟨g, k, none⟩ (.int .u8 c.toNat)) g (l.set k c) := fun j hj => by
  rw [List.length_set] at hj
  refine ⟨?_, by rw [World.frozen?_setCell]; exact (h j hj).2⟩
  by_cases e : j = k
  · subst e
    rw [World.cell?_setCell_same _ _ _ (h j hj).1]
    simp [List.getD_eq_getElem?_getD, hj]
  · rw [World.cell?_setCell_other _ ⟨g, k, none⟩ ⟨g, j, none⟩ _ (by simp <;> omega), (h j hj).1]
    have : (l.set k c).getD j 0 = l.getD j 0 := by
      rw [List.getD_eq_getElem?_getD, List.getD_eq_getElem?_getD, List.getElem?_set_ne (Ne.symm e)]
    rw [this]
theorem RowB.bs {W : World} {g : Nat} {l : Bts} (h : RowB W g l) : Bs W (some ⟨g, 0, none⟩) l := fun _ => ⟨g, 0, rfl, fun i hi => by rw [Nat.zero_add]; exact (h i hi).1⟩
theorem conv_row (l : Bts) (w : World) : ∃ c w1, (convert 9 29 (.string ⟨l.toArray⟩)).run Tryz.prog w = .ok (.slice (some ⟨w.heap.size, 0, none⟩) l.length c) w1 ∧ l.length ≤ c ∧ Below w.heap.size w w1 ∧ RowB w1 w.heap.size l := by
  have hsz : (⟨l.toArray⟩ : ByteArray).size = l.length := by simp [ByteArray.size]
  have h := Lib.run_convert_string_bytes (P := Tryz.prog) w 9 29 5 ⟨l.toArray⟩ Tryz.underlying9 Tryz.underlying29 Tryz.underlying5
  rw [hsz] at h
  refine ⟨_, _, h, grownCap_ge _ _ _ _, Lib.bytesWorld_below w 5 ⟨l.toArray⟩, fun j hj => ⟨Lib.bytesWorld_cell w 5 ⟨l.toArray⟩ j (by rw [hsz]; exact hj), ?_⟩⟩
  unfold World.frozen?
  have hs2 : l.length ≤ (Lib.bytesCells w 5 ⟨l.toArray⟩).size := by simp [Lib.bytesCells]
  simp only [Lib.bytesWorld_at_new]
  simp
  omega

theorem map_step (s : Bts) (k : Nat) (hk : k < s.length) (c : UInt8) (hc : rep s[k] = c) : ((s.take k).map rep ++ s.drop k).set k c = (s.take (k + 1)).map rep ++ s.drop (k + 1) := by
  have hl : ((s.take k).map rep).length = k := by rw [List.length_map, List.length_take]; omega
  rw [List.drop_eq_getElem_cons hk, List.take_succ_eq_append_getElem hk, List.map_append, List.append_assoc, List.set_append_right _ _ (by omega), hl, Nat.sub_self, List.set_cons_zero]
  rw [← hc]
  rfl
theorem map_still (s : Bts) (k : Nat) (hk : k < s.length) (hc : rep s[k] = s[k]) : (s.take k).map rep ++ s.drop k = (s.take (k + 1)).map rep ++ s.drop (k + 1) := by
  rw [List.drop_eq_getElem_cons hk, List.take_succ_eq_append_getElem hk, List.map_append, List.append_assoc]
  simp [hc]

set_option maxRecDepth 100000 in
set_option maxHeartbeats 4000000 in
theorem byteRep_any (b : Nat) (s : Bts) (hl : s.length < 1073741824) (w : World) (hb : Blk w b tabR 164) :
    Calls Tryz.prog 358 #[.pointer (some ⟨b, 0, none⟩), .string ⟨s.toArray⟩] w fun e w' => e = .returned (.string ⟨(s.map rep).toArray⟩) ∧ Below w.heap.size w w' := by
  have HB := Lib.hid hb
  obtain ⟨R, hR⟩ : ∃ R, s.map rep = R := ⟨_, rfl⟩
  rw [hR]
  have HR := Lib.hid hR
  have qn : ∀ (w : World) (n c n' c' : Nat), (binOp .eql 29 (.slice none n c) (.slice none n' c')).run Tryz.prog w = .ok (.bool true) w := fun w n c n' c' => Lib.run_eql_slice_nil w _ _ none n c n' c' Tryz.underlying29
  have qs : ∀ (w : World) (a : Addr) (n c n' c' : Nat), (binOp .eql 29 (.slice (some a) n c) (.slice none n' c')).run Tryz.prog w = .ok (.bool false) w := fun w a n c n' c' => Lib.run_eql_slice_nil w _ _ (some a) n c n' c' Tryz.underlying29
  clear hb hR
  go_enter Tryz.func358, Tryz.ntmps358
  go_wp2_with fail
  go_loopw [5, 6, 7] (fun x5 x6 _x7 wr => ∃ k : Nat, k ≤ s.length ∧ x6 = .int .i64 k ∧ ((x5 = .slice none 0 0 ∧ wr = w ∧ Hid ((s.take k).map rep = s.take k)) ∨ (∃ c, x5 = .slice (some ⟨w.heap.size, 0, none⟩) s.length c ∧ s.length ≤ c ∧ Hid (RowB wr w.heap.size ((s.take k).map rep ++ s.drop k)) ∧ Hid (Below w.heap.size w wr)))) (fun _ x6 _ _ => s.length - (intOf x6).toNat)
  case atStart => exact ⟨0, Nat.zero_le _, rfl, .inl ⟨rfl, rfl, Lib.hid rfl⟩⟩
  case round =>
    obtain ⟨k, hk, rfl, hst⟩ := hrel
    by_cases hlt : k < s.length
    · obtain ⟨x, hx, i0⟩ : ∃ x, s[k] = x ∧ ∀ h, (⟨s.toArray⟩ : ByteArray)[k]'h = x := ⟨s[k], rfl, fun _ => rfl⟩
      have g1 : decide ((k : Int) < s.length) = true := by simp; omega
      have g2 : (0 : Int) ≤ k := by omega
      have g3 : (k : Int) < s.length := by omega
      have HX := Lib.hid hx
      clear hx
      have hxb := u8_bd x
      have hxn : x.toNat < 256 := x.toNat_lt
      by_cases hsp : x = 32 ∨ x = 9
      · have hrx : rep x = 44 := by unfold rep; rw [if_pos hsp]
        have HRX := Lib.hid hrx
        have hx1 : ∃ v : Nat, x.toNat = v ∧ v < 256 ∧ (v : Int) ≠ 44 ∧ (tabR[v]? = some (.int .u8 44)) := by
          refine ⟨x.toNat, rfl, hxn, ?_, ?_⟩
          · rcases hsp with rfl | rfl <;> decide
          · rw [tabR_at _ hxn, UInt8.ofNat_toNat, hrx]; rfl
        obtain ⟨v, hv, hv1, hv2, hv3⟩ := hx1
        have q1 : ((44 : Int) != (v : Int)) = true := by simp; omega
        have q2 : (0 : Int) ≤ v := by omega
        have q3 : (v : Int) < 256 := by omega
        have HV3 := Lib.hid hv3
        clear hsp hrx hv3
        rcases hst with ⟨rfl, rfl, HM⟩ | ⟨c, rfl, hc, HRW, HBL⟩
        · have c1 := HB.out.cell v HV3.out
          obtain ⟨c, w1, hcv, hcl, hb1, hrw⟩ := conv_row s wr
          have hrw2 : RowB w1 wr.heap.size ((s.take k).map rep ++ s.drop k) := by rw [HM.out, List.take_append_drop]; exact hrw
          have c2 := (HB.out.keep hb1 HB.out.lt).cell v HV3.out
          have hlen : k < ((s.take k).map rep ++ s.drop k).length := by simp; omega
          obtain ⟨c3, c4⟩ := hrw2 k hlen
          have hset := hrw2.set k hlen 44
          rw [map_step s k hlt 44 (by rw [HX.out]; exact HRX.out)] at hset
          have HSET := Lib.hid hset
          have HB1 := Lib.hid hb1
          clear hb1 hrw hrw2 hset
          go_wp2_with fail
          go_roundw
          case rel => exact ⟨k + 1, by omega, by go_num, .inr ⟨c, rfl, hcl, HSET, Lib.hid (((Kept.of_below (S := fun _ => False) HB1.out).setCell (.inr (Nat.le_refl _)) k _).below)⟩⟩
          case measure => simp [intOf]; omega
        · have c2 := (HB.out.keep HBL.out HB.out.lt).cell v HV3.out
          have hlen : k < ((s.take k).map rep ++ s.drop k).length := by simp; omega
          obtain ⟨c3, c4⟩ := HRW.out k hlen
          have hset := HRW.out.set k hlen 44
          rw [map_step s k hlt 44 (by rw [HX.out]; exact HRX.out)] at hset
          have HSET := Lib.hid hset
          clear hset
          go_wp2_with fail
          go_roundw
          case rel => exact ⟨k + 1, by omega, by go_num, .inr ⟨c, rfl, hc, HSET, Lib.hid (((Kept.of_below (S := fun _ => False) HBL.out).setCell (.inr (Nat.le_refl _)) k _).below)⟩⟩
          case measure => simp [intOf]; omega
      · have hrx : rep x = x := by unfold rep; rw [if_neg hsp]
        have HRX := Lib.hid hrx
        have hv3 : tabR[x.toNat]? = some (.int .u8 x.toNat) := by rw [tabR_at _ hxn, UInt8.ofNat_toNat, hrx]
        have HV3 := Lib.hid hv3
        clear hsp hrx hv3
        rcases hst with ⟨rfl, rfl, HM⟩ | ⟨c, rfl, hc, HRW, HBL⟩
        · have c1 := HB.out.cell x.toNat HV3.out
          go_wp2_with fail
          go_roundw
          case rel => exact ⟨k + 1, by omega, by go_num, .inl ⟨rfl, by first | rfl | trivial, Lib.hid (by rw [List.take_succ_eq_append_getElem hlt, List.map_append, HM.out]; simp [HX.out, HRX.out])⟩⟩
          case measure => simp [intOf]; omega
        · have c2 := (HB.out.keep HBL.out HB.out.lt).cell x.toNat HV3.out
          go_wp2_with fail
          go_roundw
          case rel => exact ⟨k + 1, by omega, by go_num, .inr ⟨c, rfl, hc, Lib.hid (by rw [← map_still s k hlt (by rw [HX.out]; exact HRX.out)]; exact HRW.out), HBL⟩⟩
          case measure => simp [intOf]; omega
    · obtain rfl : k = s.length := by omega
      have g1 : decide ((s.length : Int) < s.length) = false := by simp
      rcases hst with ⟨rfl, rfl, HM⟩ | ⟨c, rfl, hc, HRW, HBL⟩
      · have hf : s = R := by rw [← HR.out]; have := HM.out; rw [List.take_of_length_le (Nat.le_refl _)] at this; exact this.symm
        have HF := Lib.hid hf
        clear hf
        go_wp2_with fail
        go_ret
        exact ⟨by rw [← HF.out]; rfl, Below.refl _ _⟩
      · have hbs : Bs wr (some ⟨w.heap.size, 0, none⟩) R := by
          have := HRW.out.bs
          rw [List.take_of_length_le (Nat.le_refl _), List.drop_of_length_le (Nat.le_refl _), List.append_nil, HR.out] at this
          exact this
        have hRl : R.length = s.length := by rw [← HR.out]; simp
        have hcv := run_str hbs c
        rw [hRl] at hcv
        clear hbs
        go_wp2_with fail
        go_ret
        exact ⟨rfl, HBL.out⟩

end Go.Proofs.YtihigdcfibjbpaaGreatDoor.Rp
