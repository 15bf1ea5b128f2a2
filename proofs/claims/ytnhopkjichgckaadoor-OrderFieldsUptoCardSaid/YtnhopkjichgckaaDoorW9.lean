/-
  The walks of kept, texts, number and numbers. Conditions: the slices of bytes lie in memory as they are told, and are no longer than memory allows.
-/
import Derived.Test.YtnhopkjichgckaaDoorW6
import Derived.Test.YtnhopkjichgckaaDoorW2
namespace Go.Proofs.YtnhopkjichgckaaDoor
open Go.RowKit Go.Shelf

theorem info_byte : (Tryd.prog.info? 5).map (fun i => (i.zero, i.size, i.bytes)) = some (some (.int .u8 0), 1, 1) := by kernel_rfl

theorem ownsRow_keep' {w w' : World} {base : Nat} {e : TypeId} {size : Nat} {v : Value} {n : Nat} {xs : List Value} (h : w.ownsRow base e size v n xs) (hb : Below w.heap.size w w') : w'.ownsRow base e size v n xs := by
  have hg : ∀ row, w.grownBy w' row := fun row => ⟨hb.os, hb.tape, hb.output, hb.size, fun k hk _ => hb.block k hk⟩
  cases hv : v.ownBlock with
  | none => exact h.kept (hg none) (.inl hv)
  | some g => exact h.kept (hg none) (.inr (by rw [hv]; simp))

/-- Bytes as values. -/
def vals (xs : Ord.Bytes) : List Value := xs.map fun c => .int .u8 c.toNat
theorem vals_length (xs : Ord.Bytes) : (vals xs).length = xs.length := by simp [vals]

theorem owns_slice' {w : World} {base : Nat} {e : TypeId} {size : Nat} {v : Value} {n : Nat} {xs : List Value} (h : w.ownsRow base e size v n xs) : ∃ p c, v = .slice p n c ∧ (p = none → c = 0) ∧ n ≤ c := by
  rcases h.2 with ⟨rfl, rfl⟩ | ⟨g, cap, cur, rfl, _, _, hn, _⟩
  · exact ⟨_, _, rfl, fun _ => rfl, Nat.le_refl _⟩
  · exact ⟨_, _, rfl, fun h => by simp at h, hn⟩

/-- An owned row of bytes is a slice of bytes. -/
theorem bs_of_owns {w : World} {base : Nat} {p : Option Addr} {n c : Nat} {xs : Ord.Bytes} (h : w.ownsRow base 5 1 (.slice p n c) xs.length (vals xs)) : Bs w p xs := by
  intro hl
  rcases h.2 with ⟨_, h0⟩ | ⟨g, cap, cur, hv, _, hg, hn, _, hsz, htk⟩
  · omega
  · simp at hv
    obtain ⟨rfl, rfl, rfl⟩ := hv
    refine ⟨g, 0, rfl, fun i hi => ?_⟩
    have h1 : (vals xs)[i]? = some (.int .u8 (xs.getD i 0).toNat) := by
      simp [vals, List.getElem?_eq_getElem hi, List.getD_eq_getElem?_getD]
    rw [← htk, List.getElem?_take] at h1
    rw [if_pos (by omega)] at h1
    simp only [World.cell?, hg, Nat.zero_add]
    simpa using h1

theorem kept_take (fl : Int) (b : Ord.Bytes) (k : Nat) (hk : k < b.length) : Ord.kept fl (b.take (k + 1)) = if Ord.counts fl (b.getD k 0) then Ord.kept fl (b.take k) ++ [Ord.folded fl (b.getD k 0)] else Ord.kept fl (b.take k) := by
  unfold Ord.kept
  rw [List.take_succ_eq_append_getElem hk, List.filter_append, List.map_append]
  have e : b[k] = b.getD k 0 := by simp [List.getD_eq_getElem?_getD, List.getElem?_eq_getElem hk]
  rw [e]
  by_cases h : Ord.counts fl (b.getD k 0) = true
  · rw [if_pos h]; simp only [List.filter_cons, h, if_true, List.filter_nil, List.map_cons, List.map_nil]
  · rw [if_neg h]
    have h' : Ord.counts fl (b.getD k 0) = false := by simpa using h
    simp only [List.filter_cons, h', List.filter_nil, List.map_nil, List.append_nil, Bool.false_eq_true, if_false]
theorem kept_len (fl : Int) (b : Ord.Bytes) : (Ord.kept fl b).length ≤ b.length := by
  unfold Ord.kept; rw [List.length_map]; exact List.length_filter_le _ _

/-- The relation behind an append of a byte. -/
theorem kept_push {w wr w5 : World} {base : Nat} {v v' : Value} {fl : Int} {b : Ord.Bytes} {k : Nat} {x : Int} (hk : k < b.length) (hc : Ord.counts fl (b.getD k 0) = true) (hx : x = ((Ord.folded fl (b.getD k 0)).toNat : Int))
    (h2 : wr.ownsRow base 5 1 v (Ord.kept fl (b.take k)).length (vals (Ord.kept fl (b.take k)))) (hb : Below base w wr) (hB : base ≤ wr.heap.size) {o : Obj}
    (hown : w5.ownsRow base 5 1 v' ((Ord.kept fl (b.take k)).length + 1) (vals (Ord.kept fl (b.take k)) ++ [.int .u8 x])) (hg : (wr.alloc o).grownBy w5 v.ownBlock) :
    w5.ownsRow base 5 1 v' (Ord.kept fl (b.take (k + 1))).length (vals (Ord.kept fl (b.take (k + 1)))) ∧ Below base w w5 := by
  refine ⟨?_, (hb.alloc hB o).grown hg (by simp; omega) fun j hj => (h2.lt j hj).1⟩
  rw [kept_take fl b k hk, if_pos hc]
  simpa [vals, hx] using hown

set_option maxHeartbeats 1600000 in
set_option maxRecDepth 100000 in
theorem kept_any (kb : Nat) (key : Ord.Key) (b : Ord.Bytes) (p : Option Addr) (cap : Nat) (w : World) (hk : KeyAt w kb key) (hb : Bs w p b) (hl : b.length ≤ 140737488351232) :
    Calls Tryd.prog 31 #[.pointer (some ⟨kb, 0, none⟩), .slice p b.length cap] w fun e w' => (∃ v, e = .returned v ∧ w'.ownsRow w.heap.size 5 1 v (Ord.kept key.fl b).length (vals (Ord.kept key.fl b))) ∧ Below w.heap.size w w' := by
  have hkb : kb < w.heap.size := Blk.lt hk
  go_enter Tryd.func31, Tryd.ntmps31
  go_wp2_with fail
  go_loopw [5, 7, 10] (fun v _c i wr => ∃ k : Nat, k ≤ b.length ∧ i = .int .i64 k ∧ wr.ownsRow w.heap.size 5 1 v (Ord.kept key.fl (b.take k)).length (vals (Ord.kept key.fl (b.take k))) ∧ Below w.heap.size w wr) (fun _ _ i _ => b.length - (intOf i).toNat)
  case atStart => exact ⟨0, Nat.zero_le _, rfl, World.ownsRow_nil _ _ _ _, Below.refl _ _⟩
  case round =>
    obtain ⟨k, hkl, rfl, hown, hbw⟩ := hrel
    by_cases hlt : k < b.length
    · obtain ⟨bb, bo, rfl, hcell⟩ := hb (by omega)
      have hbb : bb < w.heap.size := World.block_lt_of_cell? _ _ (hcell 0 (by omega))
      have hck := hcell k hlt
      rw [← hbw.cell (p := ⟨bb, bo + k, none⟩) hbb] at hck
      have HCELL := Lib.hid hcell; clear hcell
      have hkr : KeyAt wr kb key := Blk.keep hk hbw hkb
      have hfl : wr.cell? ⟨kb, 4, none⟩ = some (.int .i64 key.fl) := Blk.cell hkr 4 rfl
      obtain ⟨ch, hch⟩ : ∃ ch, b.getD k 0 = ch := ⟨_, rfl⟩
      rw [hch] at hck
      have HCH := Lib.hid hch; clear hch
      have hzw := hbw.size
      have hkt := kept_len key.fl (b.take k)
      rw [List.length_take] at hkt
      cases hcnt : Ord.counts key.fl ch with
      | false =>
        have HCNT := Lib.hid hcnt
        go_wp2_with (go_at_call 41; refine (counts_any kb key ch _ hkr).mono ?_; rintro e w' ⟨rfl, rfl⟩)
        go_roundw
        case rel =>
          refine ⟨k + 1, by omega, by go_num, ?_, hbw⟩
          rw [kept_take _ b k hlt, HCH.out, HCNT.out]; exact hown
        case measure => simp [intOf]; omega
      | true =>
        have HCNT := Lib.hid hcnt
        obtain ⟨i0, hi, hz0, hz1, hz2⟩ := info_parts info_byte
        have hbd := u8_bd ch
        by_cases hf : bits .and .i64 key.fl 8 = 0
        · have hf' : (bits .and .i64 key.fl 8 == 0) = true := by simpa using hf
          have HX : Hid ((ch.toNat : Int) = ((Ord.folded key.fl (b.getD k 0)).toNat : Int)) := by
            show (ch.toNat : Int) = ((Ord.folded key.fl (b.getD k 0)).toNat : Int)
            rw [HCH.out]; unfold Ord.folded Ord.has; simp [hf]
          have HF := Lib.hid hf; clear hf
          go_wp2_with (first | (go_at_call 41; refine (counts_any kb key ch _ hkr).mono ?_; rintro e w' ⟨rfl, rfl⟩) | (at_builtin; refine wpList_append_own _ rfl _ _ 23 rfl w.heap.size 5 i0 (.int .u8 0) 1 1 Tryd.underlying23 hi hz0 hz1 hz2 rfl (by decide) _ _ _ rfl (hown.alloc _) ⟨wr.heap.size, 0, none⟩ 1 1 [.int .u8 ch.toNat] rfl rfl (cell_one_new _ _ _) (by simp [Value.oneCell']) (by unfold maxLen; omega) (by omega) (by simp; omega) ?_; intro v' w5 hown' hgrow _))
          obtain ⟨hown5, hbw5⟩ := kept_push hlt (by rw [HCH.out]; exact hcnt) HX.out hown hbw hzw hown' hgrow
          go_roundw
          case rel => exact ⟨k + 1, by omega, by go_num, hown5, hbw5⟩
          case measure => simp [intOf]; omega
        · have hf' : (bits .and .i64 key.fl 8 == 0) = false := by simpa using hf
          by_cases hr1 : (ch.toNat : Int) < 97
          · have HX : Hid ((ch.toNat : Int) = ((Ord.folded key.fl (b.getD k 0)).toNat : Int)) := by
              show (ch.toNat : Int) = ((Ord.folded key.fl (b.getD k 0)).toNat : Int)
              rw [HCH.out]; unfold Ord.folded; rw [low_int, decide_eq_false (show ¬ (97 : Int) ≤ ch.toNat by omega)]; simp
            have HF := Lib.hid hf; clear hf
            go_wp2_with (first | (go_at_call 41; refine (counts_any kb key ch _ hkr).mono ?_; rintro e w' ⟨rfl, rfl⟩) | (at_builtin; refine wpList_append_own _ rfl _ _ 23 rfl w.heap.size 5 i0 (.int .u8 0) 1 1 Tryd.underlying23 hi hz0 hz1 hz2 rfl (by decide) _ _ _ rfl (hown.alloc _) ⟨wr.heap.size, 0, none⟩ 1 1 [.int .u8 (ch.toNat)] rfl rfl (cell_one_new _ _ _) (by simp [Value.oneCell']) (by unfold maxLen; omega) (by omega) (by simp; omega) ?_; intro v' w5 hown' hgrow _))
            obtain ⟨hown5, hbw5⟩ := kept_push hlt (by rw [HCH.out]; exact hcnt) HX.out hown hbw hzw hown' hgrow
            go_roundw
            case rel => exact ⟨k + 1, by omega, by go_num, hown5, hbw5⟩
            case measure => simp [intOf]; omega
          · by_cases hr2 : (122 : Int) < ch.toNat
            · have HX : Hid ((ch.toNat : Int) = ((Ord.folded key.fl (b.getD k 0)).toNat : Int)) := by
                show (ch.toNat : Int) = ((Ord.folded key.fl (b.getD k 0)).toNat : Int)
                rw [HCH.out]; unfold Ord.folded; rw [low_int, decide_eq_false (show ¬ (ch.toNat : Int) ≤ 122 by omega)]; simp
              have HF := Lib.hid hf; clear hf
              go_wp2_with (first | (go_at_call 41; refine (counts_any kb key ch _ hkr).mono ?_; rintro e w' ⟨rfl, rfl⟩) | (at_builtin; refine wpList_append_own _ rfl _ _ 23 rfl w.heap.size 5 i0 (.int .u8 0) 1 1 Tryd.underlying23 hi hz0 hz1 hz2 rfl (by decide) _ _ _ rfl (hown.alloc _) ⟨wr.heap.size, 0, none⟩ 1 1 [.int .u8 (ch.toNat)] rfl rfl (cell_one_new _ _ _) (by simp [Value.oneCell']) (by unfold maxLen; omega) (by omega) (by simp; omega) ?_; intro v' w5 hown' hgrow _))
              obtain ⟨hown5, hbw5⟩ := kept_push hlt (by rw [HCH.out]; exact hcnt) HX.out hown hbw hzw hown' hgrow
              go_roundw
              case rel => exact ⟨k + 1, by omega, by go_num, hown5, hbw5⟩
              case measure => simp [intOf]; omega
            · have HX : Hid ((ch.toNat : Int) - 32 = ((Ord.folded key.fl (b.getD k 0)).toNat : Int)) := by
                show (ch.toNat : Int) - 32 = ((Ord.folded key.fl (b.getD k 0)).toNat : Int)
                rw [HCH.out]; unfold Ord.folded Ord.has; rw [low_int, decide_eq_true (show (97 : Int) ≤ ch.toNat by omega), decide_eq_true (show (ch.toNat : Int) ≤ 122 by omega)]
                have h32 : (32 : UInt8) ≤ ch := by rw [u8_le]; show (32 : Int) ≤ _; omega
                simp [hf, UInt8.toNat_sub_of_le _ _ h32]
                omega
              have HF := Lib.hid hf; clear hf
              go_wp2_with (first | (go_at_call 41; refine (counts_any kb key ch _ hkr).mono ?_; rintro e w' ⟨rfl, rfl⟩) | (at_builtin; refine wpList_append_own _ rfl _ _ 23 rfl w.heap.size 5 i0 (.int .u8 0) 1 1 Tryd.underlying23 hi hz0 hz1 hz2 rfl (by decide) _ _ _ rfl (hown.alloc _) ⟨wr.heap.size, 0, none⟩ 1 1 [.int .u8 ((ch.toNat : Int) - 32)] rfl rfl (cell_one_new _ _ _) (by simp [Value.oneCell']) (by unfold maxLen; omega) (by omega) (by simp; omega) ?_; intro v' w5 hown' hgrow _))
              obtain ⟨hown5, hbw5⟩ := kept_push hlt (by rw [HCH.out]; exact hcnt) HX.out hown hbw hzw hown' hgrow
              go_roundw
              case rel => exact ⟨k + 1, by omega, by go_num, hown5, hbw5⟩
              case measure => simp [intOf]; omega
    · obtain rfl : k = b.length := by omega
      rw [List.take_of_length_le (Nat.le_refl _)] at hown
      go_wp2_with fail
      go_ret
      exact ⟨⟨_, rfl, hown⟩, hbw⟩

set_option maxRecDepth 100000 in
theorem texts_any (kb : Nat) (key : Ord.Key) (a b : Ord.Bytes) (p q : Option Addr) (c d : Nat) (w : World) (hk : KeyAt w kb key) (ha : Bs w p a) (hb : Bs w q b) (hla : a.length ≤ 140737488351232) (hlb : b.length ≤ 140737488351232) :
    Calls Tryd.prog 22 #[.pointer (some ⟨kb, 0, none⟩), .slice p a.length c, .slice q b.length d] w fun e w' => e = .returned (.int .i64 (Ord.texts key.fl a b)) ∧ Below w.heap.size w w' := by
  have hkb : kb < w.heap.size := Blk.lt hk
  go_enter Tryd.func22, Tryd.ntmps22
  go_wp2_with fail
  refine (kept_any kb key a p c w hk ha hla).mono ?_
  rintro e w1 ⟨⟨v1, rfl, ho1⟩, hb1⟩
  go_wp2_with fail
  refine (kept_any kb key b q d w1 (Blk.keep hk hb1 hkb) (hb.below hb1 (Nat.le_refl _)) hlb).mono ?_
  rintro e w2 ⟨⟨v2, rfl, ho2⟩, hb2⟩
  have ho1' := ownsRow_keep' ho1 hb2
  obtain ⟨p1, c1, rfl, _, _⟩ := owns_slice' ho1
  obtain ⟨p2, c2, rfl, _, _⟩ := owns_slice' ho2
  have hs1 := bs_of_owns ho1'
  have hs2 := bs_of_owns ho2
  go_wp2_with fail
  refine (bcmp_any w2 p1 p2 _ _ c1 c2 hs1 hs2).mono ?_
  rintro e w3 ⟨rfl, rfl⟩
  go_wp2_with fail
  go_ret
  exact ⟨rfl, hb1.trans (hb2.mono hb1.size)⟩

end Go.Proofs.YtnhopkjichgckaaDoor
