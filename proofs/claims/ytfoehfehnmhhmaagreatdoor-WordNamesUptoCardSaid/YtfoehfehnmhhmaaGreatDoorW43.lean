/-
  The walks of strings.IndexAny at four ASCII bytes, of ContainsAny, of Plain. Condition: lengths.
-/
import Derived.Test.YtfoehfehnmhhmaaGreatDoorW42
import Derived.Lib.OthersKept
namespace Go.Proofs.YtfoehfehnmhhmaaGreatDoor
open Go.RowKit Go.Shelf Go.Maps

theorem get_of {s : ByteArray} {n : Nat} {b : UInt8} (h : s.data.toList[n]? = some b) : s.get! n = b ∧ n < s.size := by
  have hn : n < s.data.size := by
    have := (List.getElem?_eq_some_iff.1 h).1
    simpa using this
  refine ⟨?_, hn⟩
  have h2 : s.data[n]? = some b := by simpa using h
  show s.data.get!Internal n = b
  rw [Array.get!Internal_eq_getElem!, getElem!_def, h2]

/-- The bytes that a rune beyond ASCII takes are all beyond ASCII. -/
theorem decode_bytes (s : ByteArray) (pos : Nat) (h : pos < s.size) (ha : 128 ≤ (s[pos]'h).toNat) : 1 ≤ (Utf8.decode s pos).2 ∧ ∀ j, j < (Utf8.decode s pos).2 → pos + j < s.size ∧ ∀ b, s.data.toList[pos + j]? = some b → 128 ≤ b.toNat := by
  refine ⟨(decode_high s pos h ha).2, ?_⟩
  have h0 : ∀ b, s.data.toList[pos + 0]? = some b → 128 ≤ b.toNat := by
    intro b hb
    have h1 := (get_of hb).1
    rw [get_at s pos h] at h1
    rw [← h1]; exact ha
  have hc : ∀ k, (decide (pos + k < s.size) && (s.get! (pos + k)).toNat / 64 == 2) = true → pos + k < s.size ∧ ∀ b, s.data.toList[pos + k]? = some b → 128 ≤ b.toNat := by
    intro k hk
    simp only [Bool.and_eq_true, decide_eq_true_eq, beq_iff_eq] at hk
    refine ⟨hk.1, fun b hb => ?_⟩
    have h1 := (get_of hb).1
    rw [h1] at hk
    omega
  have one : ∀ j, j < 1 → pos + j < s.size ∧ ∀ b, s.data.toList[pos + j]? = some b → 128 ≤ b.toNat := by
    intro j hj
    obtain rfl : j = 0 := by omega
    exact ⟨h, h0⟩
  have hn : ¬ (s.get! (pos + 0)).toNat < 128 := by rw [get_at s pos h]; omega
  unfold Utf8.decode
  simp only
  rw [if_neg hn]
  split
  · rename_i h1
    rw [Bool.and_eq_true] at h1
    have c1 := hc 1 h1.2
    split
    · intro j hj
      match j, hj with
      | 0, _ => exact ⟨h, h0⟩
      | 1, _ => exact c1
    · exact one
  · split
    · rename_i h1
      rw [Bool.and_eq_true, Bool.and_eq_true] at h1
      have c1 := hc 1 h1.1.2
      have c2 := hc 2 h1.2
      split
      · intro j hj
        match j, hj with
        | 0, _ => exact ⟨h, h0⟩
        | 1, _ => exact c1
        | 2, _ => exact c2
      · exact one
    · split
      · rename_i h1
        rw [Bool.and_eq_true, Bool.and_eq_true, Bool.and_eq_true] at h1
        have c1 := hc 1 h1.1.1.2
        have c2 := hc 2 h1.1.2
        have c3 := hc 3 h1.2
        split
        · intro j hj
          match j, hj with
          | 0, _ => exact ⟨h, h0⟩
          | 1, _ => exact c1
          | 2, _ => exact c2
          | 3, _ => exact c3
        · exact one
      · exact one

def fourL : List UInt8 := [39, 34, 92, 36]
theorem high_not {b : UInt8} (h : 128 ≤ b.toNat) : fourL.contains b = false := by
  have a1 : ¬ b = 39 := by rintro rfl; revert h; decide
  have a2 : ¬ b = 34 := by rintro rfl; revert h; decide
  have a3 : ¬ b = 92 := by rintro rfl; revert h; decide
  have a4 : ¬ b = 36 := by rintro rfl; revert h; decide
  simp [fourL, a1, a2, a3, a4]
theorem noAny_many {s : List UInt8} {i : Nat} (h : Lib.NoAny s fourL i) : ∀ k, (∀ j, j < k → i + j < s.length ∧ ∀ b, s[i + j]? = some b → 128 ≤ b.toNat) → Lib.NoAny s fourL (i + k) := by
  intro k
  induction k with
  | zero => intro _; exact h
  | succ k ih =>
    intro hk
    have h1 := ih fun j hj => hk j (by omega)
    obtain ⟨h2, h3⟩ := hk k (by omega)
    have h4 : s[i + k]? = some s[i + k] := List.getElem?_eq_getElem h2
    exact h1.succ h4 (high_not (h3 _ h4))

/-- What a round of IndexAny's loop knows. -/
structure AnyIn (w wx : World) (s : ByteArray) (i : Nat) : Prop where
  iter : wx.heap[w.heap.size]? = some (.stringIter s i)
  below : Below w.heap.size w wx
  no : Lib.NoAny s.data.toList fourL i

theorem AnyIn.next {w wx w' : World} {s : ByteArray} {i j : Nat} (h : AnyIn w wx s i) (hb : Below (wx.iterAt w.heap.size s j).heap.size (wx.iterAt w.heap.size s j) w') (hno : Lib.NoAny s.data.toList fourL j) : AnyIn w w' s j := by
  have hlt : w.heap.size < wx.heap.size := (Array.getElem?_eq_some_iff.1 h.iter).1
  have h1 := Lib.iterAt_heap wx w.heap.size s i j h.iter
  have hsz : (wx.iterAt w.heap.size s j).heap.size = wx.heap.size := by simp [Go.World.iterAt]
  refine ⟨?_, h.below.trans (Below.trans (b := wx.iterAt w.heap.size s j) ⟨rfl, rfl, rfl, by rw [hsz]; exact Nat.le_refl _, fun k hk => ?_⟩ (hb.mono (by rw [hsz]; omega))), hno⟩
  · rw [hb.block _ (by rw [hsz]; exact hlt)]; exact h1
  · show (wx.heap.setIfInBounds w.heap.size _)[k]? = _
    rw [Array.getElem?_setIfInBounds_ne (by omega)]

set_option maxHeartbeats 6400000 in
set_option maxRecDepth 100000 in
theorem indexAny_short (w : World) (s : ByteArray) (h8 : s.size ≤ 8) :
    Calls Tryz.prog 49 #[.string s, .string ⟨#[39, 34, 92, 36]⟩] w fun e w' => e = .returned (.int .i64 (Lib.indexAny s.data.toList fourL)) ∧ Below w.heap.size w w' := by
  have hus := Any.strings_shouldUseASCIISet Tryz.lays226 (s.size : Int) w
  rw [show decide ((8 : Int) < (s.size : Int)) = false from decide_eq_false (by omega)] at hus
  have A0 : Hid (AnyIn w (w.iter s 0) s 0) := ⟨World.iter_heap w s 0, (Below.refl _ _).alloc (Nat.le_refl _) _, Lib.NoAny.zero _ _⟩
  go_enter Tryz.func49, Tryz.ntmps49
  go_wp2_with fail
  refine hus.mono ?_
  rintro e w1 ⟨rfl, rfl⟩
  clear hus
  go_wp2_with fail
  go_loopg [9, 10] s.size (fun g _ _ wx => ∃ i : Nat, i + g = s.size ∧ Hid (AnyIn w1 wx s i))
  case atStart => exact ⟨0, by omega, A0⟩
  case round =>
    obtain ⟨i, hig, HA⟩ := hrel
    by_cases hi : i < s.size
    · obtain ⟨x, hx⟩ : ∃ x : UInt8, s[i]'hi = x := ⟨_, rfl⟩
      have hxl : s.data.toList[i]? = some x := by rw [← hx]; exact Lib.data_getElem? s i hi
      by_cases hx128 : x.toNat < 128
      · have hnx := fun ty => Lib.run_next_ascii_at (P := Tryz.prog) wr w1.heap.size s i ty HA.out.iter hi (by rw [hx]; exact hx128)
        rw [hx] at hnx
        have HX := Lib.hid hxl
        have hcon := Lib.contains_iff_indexByte fourL x
        have hback : ((x.toNat : Int)).toNat.toUInt8 = x := by simp
        have hir := fun W => Any.strings_IndexRune_ascii Tryz.lays152 ⟨#[39, 34, 92, 36]⟩ (x.toNat : Int) W (by omega) (by omega)
        rw [hback] at hir
        have hir2 : ∀ W, Calls Tryz.prog 65 #[.string ⟨#[39, 34, 92, 36]⟩, .int .i32 x.toNat] W fun e w' => e = .returned (.int .i64 (Lib.indexByte fourL x)) ∧ w' = W := hir
        clear hx hxl hir hback
        cases hin : fourL.contains x with
        | false =>
          rw [hin] at hcon
          have hlt : ¬ ((0 : Int) ≤ Lib.indexByte fourL x) := of_decide_eq_false hcon.symm
          have HA2 : Hid (AnyIn w1 (wr.iterAt w1.heap.size s (i + 1)) s (i + 1)) := HA.out.next (Below.refl _ _) (HA.out.no.succ HX.out hin)
          clear hcon hin
          generalize Lib.indexByte fourL x = R at *
          go_wp2_with fail
          refine (hir2 _).mono ?_
          rintro e w4 ⟨rfl, rfl⟩
          clear hir2 hnx
          go_wp2_with fail
          go_roundg (gk - 1)
          case measure => omega
          case rel => exact ⟨i + 1, by omega, HA2⟩
        | true =>
          rw [hin] at hcon
          have hge : (0 : Int) ≤ Lib.indexByte fourL x := of_decide_eq_true hcon.symm
          have HH : Hid (Lib.indexAny s.data.toList fourL = i) := Lib.indexAny_hit HA.out.no HX.out hin
          have HA2 : Hid (Below w1.heap.size w1 (wr.iterAt w1.heap.size s (i + 1))) := by
            refine HA.out.below.trans ⟨rfl, rfl, rfl, by simp [Go.World.iterAt], fun k hk => ?_⟩
            show (wr.heap.setIfInBounds w1.heap.size _)[k]? = _
            rw [Array.getElem?_setIfInBounds_ne (by omega)]
          clear hcon hin
          generalize Lib.indexByte fourL x = R at *
          go_wp2_with fail
          refine (hir2 _).mono ?_
          rintro e w4 ⟨rfl, rfl⟩
          clear hir2 hnx
          go_wp2_with fail
          go_ret
          exact ⟨by rw [HH.out]; rfl, HA2.out⟩
      · have hxx : 128 ≤ (s[i]'hi).toNat := by rw [hx]; omega
        obtain ⟨hd1, hd2⟩ := decode_high s i hi hxx
        have hdl := decode_le s i
        obtain ⟨-, hdb⟩ := decode_bytes s i hi hxx
        have hnx := fun ty => Lib.run_next_any_at (P := Tryz.prog) wr w1.heap.size s i ty HA.out.iter hi
        have hno := noAny_many HA.out.no _ fun j hj => by
          obtain ⟨h1, h2⟩ := hdb j hj
          exact ⟨by rw [← Lib.size_eq]; exact h1, h2⟩
        have hle : i + (Utf8.decode s i).2 ≤ s.size := by
          have := (hdb ((Utf8.decode s i).2 - 1) (by omega)).1
          omega
        have HNO := Lib.hid hno
        clear hno hdb hx hxl hx128 hxx
        generalize hdec : Utf8.decode s i = d at *
        obtain ⟨r, wd⟩ := d
        simp only at hd1 hd2 hdl hnx hle
        clear hdec
        have hir : ∀ W, Calls Tryz.prog 65 #[.string ⟨#[39, 34, 92, 36]⟩, .int .i32 r] W fun e w' => e = .returned (.int .i64 (-1)) ∧ Below W.heap.size W w' := fun W => indexRune_high W (r : Int) (by omega) (by omega)
        go_wp2_with fail
        refine (hir _).mono ?_
        rintro e w4 ⟨rfl, hb4⟩
        have HA2 : Hid (AnyIn w1 w4 s (i + wd)) := HA.out.next hb4 HNO.out
        clear hir hnx hb4
        go_wp2_with fail
        go_roundg (gk - wd)
        case measure => omega
        case rel => exact ⟨i + wd, by omega, HA2⟩
    · have hnx := fun ty => Lib.run_next_end_at (P := Tryz.prog) wr w1.heap.size s i ty HA.out.iter hi
      have HH : Hid (Lib.indexAny s.data.toList fourL = -1) := Lib.indexAny_none (by
        have := HA.out.no
        rwa [show i = s.data.toList.length by rw [← Lib.size_eq]; omega] at this)
      go_wp2_with fail
      go_ret
      exact ⟨by rw [HH.out]; rfl, HA.out.below⟩

end Go.Proofs.YtfoehfehnmhhmaaGreatDoor
