/-
  The walk of joined. Condition: the fields lie in memory as they are told, and are no longer than is told.
-/
import Derived.Test.YtnhopkjichgckaaDoorW15
import Derived.Test.YtnhopkjichgckaaDoorFldLaw
namespace Go.Proofs.YtnhopkjichgckaaDoor
open Go.RowKit Go.Shelf

theorem StrsIn.at {w W : World} {p : Option Addr} {K : List Ord.Bytes} (h : StrsIn w p K) (hb : Below w.heap.size w W) (i : Nat) (hi : i < K.length) : ∃ b o, p = some ⟨b, o, none⟩ ∧ W.cell? ⟨b, o + i, none⟩ = some (.string ⟨(K.getD i []).toArray⟩) := by
  obtain ⟨b, o, hp, hc⟩ := h (by omega)
  have hlt : b < w.heap.size := World.block_lt_of_cell? _ _ (hc 0 (by omega))
  exact ⟨b, o, hp, by rw [hb.cell (p := ⟨b, o + i, none⟩) hlt]; exact hc i hi⟩

theorem catL (x y : Ord.Bytes) : (⟨x.toArray⟩ : ByteArray) ++ ⟨y.toArray⟩ = ⟨(x ++ y).toArray⟩ := by
  apply ByteArray.ext
  rw [ByteArray.data_append]
  simp

theorem joinedL_bad {L : List Ord.Bytes} {s : UInt8} {j : Nat} (hj : j < L.length) (h : (L.getD j []).contains s = true) : Ord.joinedL L s = [] := by
  unfold Ord.joinedL
  rw [if_neg]
  intro h2
  have := List.all_eq_true.1 h2 (L.getD j []) (by simp [List.getD_eq_getElem?_getD, List.getElem?_eq_getElem hj])
  rw [h] at this; exact absurd this (by decide)
theorem joinedL_good {L : List Ord.Bytes} {s : UInt8} (h : ∀ x ∈ L, x.contains s = false) : Ord.joinedL L s = Ord.join s L := by
  unfold Ord.joinedL
  rw [if_pos (List.all_eq_true.2 fun x hx => by rw [h x hx]; rfl)]

theorem contains_take (x : Ord.Bytes) (s : UInt8) (k : Nat) (hk : k < x.length) (h1 : (x.take k).contains s = false) (h2 : x.getD k 0 ≠ s) : (x.take (k + 1)).contains s = false := by
  rw [List.take_succ_eq_append_getElem hk]
  have e : x[k] = x.getD k 0 := by simp [List.getD_eq_getElem?_getD, List.getElem?_eq_getElem hk]
  rw [e]
  simp at h1 ⊢
  exact ⟨h1, fun h => h2 (by simp [List.getD_eq_getElem?_getD, h])⟩

theorem conv_byte (W : World) (s : UInt8) :
    (convert 23 9 (.slice (some ⟨W.heap.size, 0, none⟩) 1 1)).run Tryd.prog (W.alloc (.cells #[.int .u8 s.toNat] 5)) = .ok (.string ⟨[s].toArray⟩) (W.alloc (.cells #[.int .u8 s.toNat] 5)) :=
  run_str (bs_one W s 5) 1

theorem contains_get (x : Ord.Bytes) (s : UInt8) (k : Nat) (hk : k < x.length) (h : x.getD k 0 = s) : x.contains s = true := by
  rw [← h]
  simp [List.getD_eq_getElem?_getD, List.getElem?_eq_getElem hk]

set_option maxHeartbeats 1600000 in
set_option maxRecDepth 100000 in
theorem joined_any (L : List Ord.Bytes) (p : Option Addr) (cap : Nat) (s : UInt8) (w : World) (hL : StrsIn w p L) (hn : L.length ≤ 1048576) (hs : Ord.lenAll L ≤ 1048576) :
    Calls Tryd.prog 13 #[.slice p L.length cap, .int .u8 s.toNat] w fun e w' => e = .returned (.string ⟨(Ord.joinedL L s).toArray⟩) ∧ Below w.heap.size w w' := by
  have hat := fun W (h : Below w.heap.size w W) i hi => hL.at h i hi
  have HAT := Lib.hid hat; clear hat
  go_enter Tryd.func13, Tryd.ntmps13
  go_wp2_with fail
  go_loopw [4, 5, 6, 7] (fun _x4 x5 x6 _x7 wr => ∃ j : Nat, j ≤ L.length ∧ (∀ x ∈ L.take j, x.contains s = false) ∧ x5 = .string ⟨(Ord.join s (L.take j)).toArray⟩ ∧ x6 = .int .i64 j ∧ Below w.heap.size w wr) (fun _ _ x6 _ _ => L.length - (intOf x6).toNat)
  case atStart => exact ⟨0, Nat.zero_le _, by simp, rfl, rfl, Below.refl _ _⟩
  case round =>
    obtain ⟨j, hj, hg, rfl, rfl, hbw⟩ := hrel
    have HG := Lib.hid hg; clear hg
    have hjl := Nat.le_trans (Ord.join_len s (L.take j)) (Nat.le_trans (Ord.lenAll_take L j) hs)
    by_cases hlt : j < L.length
    · obtain ⟨bb, bo, rfl, hc⟩ := HAT.out wr hbw j hlt
      have hxl := Nat.le_trans (Ord.lenAll_get L j) hs
      have hpush : Hid (Ord.join s (L.take (j + 1)) = if L.take j = [] then L.getD j [] else Ord.join s (L.take j) ++ s :: L.getD j []) := by
        show _ = _
        rw [List.take_succ_eq_append_getElem hlt, Ord.join_push]
        simp [List.getD_eq_getElem?_getD, List.getElem?_eq_getElem hlt]
      have hgs : Hid ((L.getD j []).contains s = false → ∀ x ∈ L.take (j + 1), x.contains s = false) := by
        show _ → _
        intro h x hx
        rw [List.take_succ_eq_append_getElem hlt] at hx
        rcases List.mem_append.1 hx with hx | hx
        · exact HG.out x hx
        · simp at hx; rw [hx]; simpa [List.getD_eq_getElem?_getD, List.getElem?_eq_getElem hlt] using h
      have hbad : Hid ((L.getD j []).contains s = true → Ord.joinedL L s = []) := fun h => joinedL_bad hlt h
      generalize L.getD j [] = x at *
      have hacc : Hid (j = 0 → Ord.join s (L.take j) = []) := by
        show _ → _
        rintro rfl; rfl
      generalize Ord.join s (L.take j) = acc at *
      go_wp2_with fail
      go_loopw [7] (fun x7 wx => ∃ k : Nat, k ≤ x.length ∧ (x.take k).contains s = false ∧ x7 = .int .i64 k ∧ wr = wx) (fun x7 _ => x.length - (intOf x7).toNat)
      case atStart => exact ⟨0, Nat.zero_le _, rfl, rfl, rfl⟩
      case round =>
        obtain ⟨k, hk, hkc, rfl, rfl⟩ := hrel
        by_cases hlt2 : k < x.length
        · have hbg := bget x k (by simpa [ByteArray.size] using hlt2)
          obtain ⟨ch, hch⟩ : ∃ ch, x.getD k 0 = ch := ⟨_, rfl⟩
          rw [hch] at hbg
          have HCH := Lib.hid hch; clear hch
          have HKC := Lib.hid hkc; clear hkc
          by_cases hcs : ch = s
          · subst hcs
            go_wp2_with fail
            go_ret
            refine ⟨ret_str ?_, hbw⟩
            rw [hbad.out (contains_get x ch k hlt2 HCH.out)]
          · have hne : ((ch.toNat : Int) == (s.toNat : Int)) = false := by
              rw [beq_eq_false_iff_ne]; intro h; exact hcs (UInt8.toNat_inj.1 (by omega))
            have HCS := Lib.hid hcs; clear hcs
            go_wp2_with fail
            refine ⟨⟨k + 1, by omega, contains_take x s k hlt2 HKC.out (by rw [HCH.out]; exact HCS.out), by go_num, trivial⟩, ?_⟩
            show x.length - ((k : Int) + 1).toNat < x.length - (k : Int).toNat
            omega
        · obtain rfl : k = x.length := by omega
          rw [List.take_of_length_le (Nat.le_refl _)] at hkc
          have HKC := Lib.hid hkc; clear hkc
          have hcv := conv_byte wr s
          by_cases hj0 : j = 0
          · have hp2 := hpush.out
            rw [if_pos (by rw [hj0]; simp)] at hp2
            have HP := Lib.hid hp2; clear hp2
            have HA := hacc.out hj0
            have HACC := Lib.hid HA; clear HA
            have hjp : (decide (0 < j)) = false := by simp; omega
            have hjn : ¬ 0 < j := by omega
            clear hj0
            go_wp2_with fail
            refine ⟨⟨j + 1, by omega, hgs.out HKC.out, congrArg Value.string ?_, by go_num, hbw⟩, ?_⟩
            · rw [catL, HACC.out, HP.out]; rfl
            · show L.length - ((j : Int) + 1).toNat < L.length - (j : Int).toNat
              omega
          · have hp2 := hpush.out
            rw [if_neg (by intro h; have := congrArg List.length h; rw [List.length_take, List.length_nil] at this; omega)] at hp2
            have HP := Lib.hid hp2; clear hp2
            have hjp : 0 < j := by omega
            have hc' := new_cell hc
            go_wp2_with fail
            refine ⟨⟨j + 1, by omega, hgs.out HKC.out, congrArg Value.string ?_, by go_num, hbw.alloc hbw.size _⟩, ?_⟩
            · rw [show (⟨acc.toArray⟩ : ByteArray) ++ ⟨#[s]⟩ = ⟨(acc ++ [s]).toArray⟩ from catL acc [s], catL, HP.out]
              simp
            · show L.length - ((j : Int) + 1).toNat < L.length - (j : Int).toNat
              omega
    · obtain rfl : j = L.length := by omega
      have hg := HG.out
      rw [List.take_length] at hg
      have HGOOD := Lib.hid (joinedL_good hg)
      clear hg HG
      go_wp2_with fail
      go_ret
      refine ⟨ret_str ?_, hbw⟩
      rw [HGOOD.out, List.take_length]

end Go.Proofs.YtnhopkjichgckaaDoor
