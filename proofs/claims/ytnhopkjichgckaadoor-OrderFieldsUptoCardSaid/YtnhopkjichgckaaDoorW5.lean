/-
  The walk of order.Read. Conditions: options and their texts are no longer than memory allows; the library's errors lie in its variables.
-/
import Derived.Test.YtnhopkjichgckaaDoorW4
import Derived.StillTailTactics
import Derived.Deep.RegionHeld3
namespace Go.Proofs.YtnhopkjichgckaaDoor
open Go.RowKit Go.Shelf

def ptr (b : Nat) : Value := .pointer (some ⟨b, 0, none⟩)

/-- A slice of keys that the call itself has made. -/
def KeysAt (w : World) (base : Nat) (v : Value) (ks : List Ord.Key) : Prop :=
  ∃ kbs : List Nat, kbs.length = ks.length ∧ w.ownsRow base 45 1 v kbs.length (kbs.map ptr) ∧ ∀ (i b : Nat) (k : Ord.Key), kbs[i]? = some b → ks[i]? = some k → KeyAt w b k ∧ base ≤ b

theorem grownBy_below {w w' : World} (hb : Below w.heap.size w w') (row : Option Nat) : w.grownBy w' row := ⟨hb.os, hb.tape, hb.output, hb.size, fun k hk _ => hb.block k hk⟩

theorem ownsRow_keep {w w' : World} {base : Nat} {e : TypeId} {size : Nat} {v : Value} {n : Nat} {xs : List Value} (h : w.ownsRow base e size v n xs) (hb : Below w.heap.size w w') : w'.ownsRow base e size v n xs := by
  cases hv : v.ownBlock with
  | none => exact h.kept (grownBy_below hb none) (.inl hv)
  | some g => exact h.kept (grownBy_below hb none) (.inr (by rw [hv]; simp))

theorem KeysAt.nil (w : World) (base : Nat) : KeysAt w base (.slice none 0 0) [] :=
  ⟨[], rfl, World.ownsRow_nil _ _ _ _, by simp⟩

theorem KeysAt.keep {w w' : World} {base : Nat} {v : Value} {ks : List Ord.Key} (h : KeysAt w base v ks) (hb : Below w.heap.size w w') : KeysAt w' base v ks := by
  obtain ⟨kbs, h1, h2, h3⟩ := h
  exact ⟨kbs, h1, ownsRow_keep h2 hb, fun i b k hi hk => let ⟨a, c⟩ := h3 i b k hi hk; ⟨Blk.keep a hb (Blk.lt a), c⟩⟩

theorem KeysAt.setOther {w : World} {base : Nat} {v : Value} {ks : List Ord.Key} (h : KeysAt w base v ks) {a : Addr} (ha : a.block < base) (u : Value) : KeysAt (w.setCell a u) base v ks := by
  obtain ⟨kbs, h1, h2, h3⟩ := h
  exact ⟨kbs, h1, ownsRow_setCell_below h2 ha u, fun i b k hi hk => let ⟨x, c⟩ := h3 i b k hi hk; ⟨Blk.setOther x (by omega) _, c⟩⟩

theorem key_not_row {w : World} {b base : Nat} {k : Ord.Key} {v : Value} {n : Nat} {xs : List Value} (hk : KeyAt w b k) (h : w.ownsRow base 45 1 v n xs) : some b ≠ v.ownBlock := by
  intro he
  rcases h.2 with ⟨rfl, _⟩ | ⟨g, cap, cur, rfl, _, hg, _⟩
  · simp [Value.ownBlock] at he
  · simp [Value.ownBlock] at he
    subst he
    have hk' : w.heap[b]? = some (.cells (keyCells k (cmpFn b k.fl)) 51 (0, 0)) := hk
    rw [hg] at hk'
    simp at hk'

/-- Behind an append. -/
theorem KeysAt.push {w w' : World} {base b : Nat} {v v' : Value} {ks : List Ord.Key} {k : Ord.Key} {kbs : List Nat} (h1 : kbs.length = ks.length) (h2 : w.ownsRow base 45 1 v kbs.length (kbs.map ptr))
    (h3 : ∀ (i b : Nat) (k : Ord.Key), kbs[i]? = some b → ks[i]? = some k → KeyAt w b k ∧ base ≤ b) (hk : KeyAt w b k) (hb : base ≤ b)
    (hown : w'.ownsRow base 45 1 v' (kbs.length + 1) (kbs.map ptr ++ [ptr b])) (hg : w.grownBy w' v.ownBlock) : KeysAt w' base v' (ks ++ [k]) := by
  have hkeep : ∀ b' k', KeyAt w b' k' → KeyAt w' b' k' := fun b' k' hk' => (hg.block b' (Blk.lt hk') (key_not_row hk' h2)).trans hk'
  refine ⟨kbs ++ [b], by simp [h1], by simpa using hown, fun i b' k' hi hk' => ?_⟩
  by_cases hlt : i < kbs.length
  · rw [List.getElem?_append_left hlt] at hi
    rw [List.getElem?_append_left (by omega)] at hk'
    exact ⟨hkeep _ _ (h3 i b' k' hi hk').1, (h3 i b' k' hi hk').2⟩
  · rw [List.getElem?_append_right (by omega)] at hi
    rw [List.getElem?_append_right (by omega)] at hk'
    have e1 : i - kbs.length = 0 := by
      rcases Nat.eq_zero_or_pos (i - kbs.length) with h | h
      · exact h
      · rw [List.getElem?_eq_none (by simp; omega)] at hi; cases hi
    have e2 : i - ks.length = 0 := by omega
    rw [e1] at hi; rw [e2] at hk'
    simp at hi hk'
    subst hi hk'
    exact ⟨hkeep _ _ hk, hb⟩

/-- A block that is no row of keys outlives the append. -/
theorem blk_grown {w w' : World} {base b : Nat} {v : Value} {n : Nat} {xs : List Value} {cs : Array Value} {t : TypeId} (hk : Blk w b cs t) (h : w.ownsRow base 45 1 v n xs) (hb : b < base) (hg : w.grownBy w' v.ownBlock) : Blk w' b cs t := by
  refine (hg.block b hk.lt ?_).trans hk
  intro he
  have := (h.lt b he.symm).1
  omega

theorem owns_slice {w : World} {base : Nat} {e : TypeId} {size : Nat} {v : Value} {n : Nat} {xs : List Value} (h : w.ownsRow base e size v n xs) : ∃ p c, v = .slice p n c := by
  rcases h.2 with ⟨rfl, rfl⟩ | ⟨g, cap, cur, rfl, _⟩
  · exact ⟨_, _, rfl⟩
  · exact ⟨_, _, rfl⟩

/-- What is known behind 'append' of a key. -/
theorem push_facts {w4 w5 : World} {ob kb : Nat} {g sep : Int} {kv v' : Value} {ks : List Ord.Key} {key : Ord.Key} {kbs : List Nat} {B : Nat} {w : World} (hbk : Blk w4 ob #[.int .i64 g, .int .i64 sep, kv] 41) (h1 : kbs.length = ks.length)
    (h2 : w4.ownsRow (ob + 1) 45 1 kv kbs.length (kbs.map ptr)) (h3 : ∀ (i b : Nat) (k : Ord.Key), kbs[i]? = some b → ks[i]? = some k → KeyAt w4 b k ∧ ob + 1 ≤ b) (hk : KeyAt w4 kb key) (hkb : ob + 1 ≤ kb)
    (hown : w5.ownsRow (ob + 1) 45 1 v' (kbs.length + 1) (kbs.map ptr ++ [ptr kb])) (hg : (w4.alloc (.cells #[.pointer (some ⟨kb, 0, none⟩)] 45)).grownBy w5 kv.ownBlock) (hb : Below B w w4) (hB : B ≤ ob) :
    Blk w5 ob #[.int .i64 g, .int .i64 sep, kv] 41 ∧ KeysAt w5 (ob + 1) v' (ks ++ [key]) ∧ Below B w w5 := by
  refine ⟨blk_grown (hbk.alloc _) (h2.alloc _) (Nat.lt_succ_self _) hg, KeysAt.push h1 (h2.alloc _) (fun i b k hi hk => ⟨Blk.alloc (h3 i b k hi hk).1 _, (h3 i b k hi hk).2⟩) (Blk.alloc hk _) hkb hown hg, ?_⟩
  have hob := hbk.lt
  refine (hb.alloc (by omega) _).grown hg (by simp; omega) fun k hk' => ?_
  have := (h2.lt k hk').1
  omega

theorem info_key : (Tryd.prog.info? 45).map (fun i => (i.zero, i.size, i.bytes)) = some (some (.pointer none), 1, 8) := by kernel_rfl

/-- An order in memory. -/
def OrderAt (w : World) (ob : Nat) (o : Ord.Ordr) : Prop :=
  ∃ kv, Blk w ob #[.int .i64 o.fl, .int .i64 o.sep, kv] 41 ∧ KeysAt w (ob + 1) kv o.keys

theorem OrderAt.keep {w w' : World} {ob : Nat} {o : Ord.Ordr} (h : OrderAt w ob o) (hb : Below w.heap.size w w') : OrderAt w' ob o := by
  obtain ⟨kv, h1, h2⟩ := h
  exact ⟨kv, h1.keep hb h1.lt, h2.keep hb⟩

/-- Options in memory. -/
def OptsIn (w : World) (p : Option Addr) (l : List Ord.Opt) : Prop :=
  0 < l.length → ∃ b o, p = some ⟨b, o, none⟩ ∧ ∀ i, i < l.length → w.cell? ⟨b, o + i * 2, none⟩ = some (.int .u8 (l.getD i (0, [])).1.toNat) ∧ w.cell? ⟨b, o + i * 2 + 1, none⟩ = some (.string ⟨(l.getD i (0, [])).2.toArray⟩)

theorem OptsIn.below {B : Nat} {w w' : World} {p : Option Addr} {l : List Ord.Opt} (h : OptsIn w p l) (hb : Below B w w') (hB : w.heap.size ≤ B) : OptsIn w' p l := by
  intro hl
  obtain ⟨b, o, hp, hc⟩ := h hl
  have hlt : b < w.heap.size := World.block_lt_of_cell? _ _ (hc 0 hl).1
  exact ⟨b, o, hp, fun i hi => by rw [hb.cell (p := ⟨b, o + i * 2, none⟩) (by simp; omega), hb.cell (p := ⟨b, o + i * 2 + 1, none⟩) (by simp; omega)]; exact hc i hi⟩

/-- What Read hands back. -/
def ReadPost (l : List Ord.Opt) (w : World) (e : Ending) (w' : World) : Prop := match Ord.readAll l with
  | none => e = .returned (.tuple #[.pointer none, .bool false])
  | some o => ∃ ob, e = .returned (.tuple #[.pointer (some ⟨ob, 0, none⟩), .bool true]) ∧ w.heap.size ≤ ob ∧ OrderAt w' ob o

theorem wholeFlags_take (l : List Ord.Opt) (k : Nat) (hk : k < l.length) : Ord.wholeFlags (l.take (k + 1)) = Ord.orI (Ord.wholeFlags (l.take k)) (Ord.flag (l.getD k (0, [])).1 3) := by
  unfold Ord.wholeFlags
  rw [List.take_succ_eq_append_getElem hk, List.foldl_append]
  simp [List.getD_eq_getElem?_getD, List.getElem?_eq_getElem hk]

set_option maxHeartbeats 3200000 in
set_option maxRecDepth 100000 in
theorem Read_any (l : List Ord.Opt) (p : Option Addr) (cap : Nat) (hl : l.length ≤ 5864062014805) (ha : ∀ i, (l.getD i (0, [])).2.length ≤ 140737488351232) (w : World) (ho : OptsIn w p l) (hg : Glo w) (hB : 8 ≤ w.heap.size) :
    Calls Tryd.prog 7 #[.slice p l.length cap] w fun e w' => ReadPost l w e w' ∧ Below w.heap.size w w' := by
  go_enter Tryd.func7, Tryd.ntmps7
  go_wp2_with fail
  have hk1 := Blk.new w #[.int .i64 0, .int .i64 (-1), .slice none 0 0] 41
  have hb1 : Below w.heap.size w (w.alloc (.cells #[.int .i64 0, .int .i64 (-1), .slice none 0 0] 41)) := (Below.refl _ _).alloc (by simp) _
  have hz1 : w.heap.size + 1 ≤ (w.alloc (.cells #[.int .i64 0, .int .i64 (-1), .slice none 0 0] 41)).heap.size := by simp
  generalize (w.alloc (.cells #[.int .i64 0, .int .i64 (-1), .slice none 0 0] 41)) = w1 at *
  go_loopw [6, 16] (fun x i wr => ∃ k : Nat, k ≤ l.length ∧ i = .int .i64 k ∧ Blk wr w.heap.size #[.int .i64 (Ord.wholeFlags (l.take k)), .int .i64 (-1), .slice none 0 0] 41 ∧ Below w.heap.size w wr) (fun _ i _ => l.length - (intOf i).toNat)
  case atStart => exact ⟨0, Nat.zero_le _, rfl, hk1, hb1⟩
  case round =>
    obtain ⟨k, hk, rfl, hbk, hbw⟩ := hrel
    have hlr := hbk.lt
    by_cases hlt : k < l.length
    · obtain ⟨bb, bo, rfl, hc⟩ := ho (by omega)
      have hbb : bb < w.heap.size := World.block_lt_of_cell? _ _ (hc 0 (by omega)).1
      obtain ⟨hc1, hc2⟩ := hc k hlt
      rw [← hbw.cell (p := ⟨bb, bo + k * 2, none⟩) hbb] at hc1
      rw [← hbw.cell (p := ⟨bb, bo + k * 2 + 1, none⟩) hbb] at hc2
      have hwt := Lib.hid (wholeFlags_take l k hlt)
      generalize l.getD k (0, []) = x at *
      generalize Ord.wholeFlags (l.take k) = g at *
      clear hc ho
      have e0 := hbk.cell 0 rfl
      have f0 := hbk.free 0
      go_wp2_with fail
      have hbk2 := hbk.alloc (.cells #[.int .u8 x.1.toNat, .string ⟨x.2.toArray⟩] 43)
      have hbw2 := hbw.alloc (by omega) (.cells #[.int .u8 x.1.toNat, .string ⟨x.2.toArray⟩] 43)
      have hx2 := Blk.new wr #[.int .u8 x.1.toNat, .string ⟨x.2.toArray⟩] 43
      have hz2 : wr.heap.size + 1 ≤ (wr.alloc (.cells #[.int .u8 x.1.toNat, .string ⟨x.2.toArray⟩] 43)).heap.size := by simp
      generalize wr.alloc (.cells #[.int .u8 x.1.toNat, .string ⟨x.2.toArray⟩] 43) = w2 at *
      clear e0 f0 hc1 hc2
      have e0 : w2.cell? ⟨w.heap.size, 0, none⟩ = some (.int .i64 g) := hbk2.cell 0 rfl
      have f0 := hbk2.free 0
      have x0 : w2.cell? ⟨wr.heap.size, 0, none⟩ = some (.int .u8 x.1.toNat) := hx2.cell 0 rfl
      go_still_tail 10, (by kernel_rfl)
      still_call ((flag_any x.1 3 _).mono (by rintro e w' ⟨rfl, rfl⟩; exact ⟨rfl, rfl⟩))
      repeat still_step
      refine wpStill_nil ?_
      change wpList _ _ _ _ _ w2.drew
      have hbk3 := hbk2.drew
      have hbw3 := hbw2.drew
      generalize w2.drew = w3 at *
      clear e0 f0 x0
      have e0 : w3.cell? ⟨w.heap.size, 0, none⟩ = some (.int .i64 g) := hbk3.cell 0 rfl
      have f0 := hbk3.free 0
      go_wp2_with fail
      go_roundw
      case rel =>
        refine ⟨k + 1, by omega, by go_num, ?_, hbw3.setCell (p := ⟨w.heap.size, 0, none⟩) (Nat.le_refl _) _⟩
        rw [hwt.out]
        exact hbk3.set 0 _
      case measure => simp [intOf]; omega
    · obtain rfl : k = l.length := by omega
      rw [List.take_of_length_le (Nat.le_refl _)] at hbk
      obtain ⟨g, hg0⟩ : ∃ g, g = Ord.wholeFlags l := ⟨_, rfl⟩
      have HG := Lib.hid hg0
      rw [← hg0] at hbk
      clear hg0
      go_wp2_with fail
      clear hk1 hb1 hz1 hk hlt
      go_loopw [8, 9, 10, 33, 39, 55] (fun x8 x9 x10 i x39 x55 wx => ∃ (k : Nat) (sep : Int) (ks : List Ord.Key) (kv : Value), k ≤ l.length ∧ ks.length ≤ k ∧ Ord.readOpts g l (-1) [] = Ord.readOpts g (l.drop k) sep ks ∧ i = .int .i64 k ∧ Blk wx w.heap.size #[.int .i64 g, .int .i64 sep, kv] 41 ∧ KeysAt wx (w.heap.size + 1) kv ks ∧ Below w.heap.size w wx) (fun _ _ _ i _ _ _ => l.length - (intOf i).toNat)
      case atStart => exact ⟨0, -1, [], _, Nat.zero_le _, Nat.le_refl _, rfl, rfl, hbk, KeysAt.nil _ _, hbw⟩
      case round =>
        obtain ⟨k, sep, ks, kv, hk, hkk, hro, rfl, hbk, hks, hbw⟩ := hrel
        have HR := Lib.hid hro; clear hro
        have hlr := hbk.lt
        by_cases hlt : k < l.length
        · obtain ⟨bb, bo, rfl, hc⟩ := ho (by omega)
          have hbb : bb < w.heap.size := World.block_lt_of_cell? _ _ (hc 0 (by omega)).1
          obtain ⟨hc1, hc2⟩ := hc k hlt
          rw [← hbw.cell (p := ⟨bb, bo + k * 2, none⟩) hbb] at hc1
          rw [← hbw.cell (p := ⟨bb, bo + k * 2 + 1, none⟩) hbb] at hc2
          have hax := ha k
          have HD : Hid (l.drop k = l.getD k (0, []) :: l.drop (k + 1)) := by
            show l.drop k = _
            rw [List.drop_eq_getElem_cons hlt]; simp [List.getD_eq_getElem?_getD, List.getElem?_eq_getElem hlt]
          obtain ⟨x, hx⟩ : ∃ x, x = l.getD k (0, []) := ⟨_, rfl⟩
          rw [← hx] at hc1 hc2 HD hax
          clear hc ho hx ha
          go_upto_region 10 with fail
          have hbk2 := hbk.alloc (.cells #[.int .u8 x.1.toNat, .string ⟨x.2.toArray⟩] 43)
          have hks2 : KeysAt (wr.alloc (.cells #[.int .u8 x.1.toNat, .string ⟨x.2.toArray⟩] 43)) (w.heap.size + 1) kv ks := hks.keep ((Below.refl _ _).alloc (Nat.le_refl _) _)
          have hbw2 := hbw.alloc (by omega) (.cells #[.int .u8 x.1.toNat, .string ⟨x.2.toArray⟩] 43)
          have hx2 := Blk.new wr #[.int .u8 x.1.toNat, .string ⟨x.2.toArray⟩] 43
          have hz2 : wr.heap.size + 1 ≤ (wr.alloc (.cells #[.int .u8 x.1.toNat, .string ⟨x.2.toArray⟩] 43)).heap.size := by simp
          generalize wr.alloc (.cells #[.int .u8 x.1.toNat, .string ⟨x.2.toArray⟩] 43) = w2 at *
          clear hc1 hc2 hks
          have e1 : w2.cell? ⟨w.heap.size, 1, none⟩ = some (.int .i64 sep) := hbk2.cell 1 rfl
          have f1 := hbk2.free 1
          have x0 : w2.cell? ⟨wr.heap.size, 0, none⟩ = some (.int .u8 x.1.toNat) := hx2.cell 0 rfl
          have x1 : w2.cell? ⟨wr.heap.size, 1, none⟩ = some (.string ⟨x.2.toArray⟩) := hx2.cell 1 rfl
          by_cases c1 : x.1 = 116
          · have c1' : ((x.1.toNat : Int) == 116) = true := by rw [c1]; rfl
            by_cases c2 : x.2.length = 1
            · obtain ⟨c, hc⟩ : ∃ c, x.2 = [c] := by
                match hh : x.2, c2 with
                | [c], _ => exact ⟨c, rfl⟩
              rw [hc] at x1
              clear c2
              have HC := Lib.hid hc; clear hc
              have HC1 := Lib.hid c1; clear c1
              go_wp2_with fail
              go_roundw
              case rel =>
                have hcv : wrap64 (((⟨#[c]⟩ : ByteArray)[0]'(Nat.zero_lt_one)).toNat : Int) = (c.toNat : Int) := by
                  show wrap64 (c.toNat : Int) = _
                  have := u8_bd c
                  exact IntWalk.wrap64_in _ ⟨by omega, by omega⟩
                refine ⟨k + 1, (c.toNat : Int), ks, kv, by omega, by omega, ?_, by go_num, ?_, ?_, ?_⟩
                · rw [HR.out, HD.out]; simp only [Ord.readOpts, if_pos HC1.out, HC.out]
                · rw [hcv]; exact (hbk2.set 1 _).set 1 _
                · exact (hks2.setOther (a := ⟨w.heap.size, 1, none⟩) (Nat.lt_succ_self _) _).setOther (a := ⟨w.heap.size, 1, none⟩) (Nat.lt_succ_self _) _
                · exact (hbw2.setCell (p := ⟨w.heap.size, 1, none⟩) (Nat.le_refl _) _).setCell (p := ⟨w.heap.size, 1, none⟩) (Nat.le_refl _) _
              case measure => simp [intOf]; omega
            · have c2' : ((x.2.length : Int) == 1) = false := by rw [beq_eq_false_iff_ne]; omega
              have HC2 := Lib.hid c2; clear c2
              have HC1 := Lib.hid c1; clear c1
              go_wp2_with fail
              go_roundw
              case rel =>
                refine ⟨k + 1, -2, ks, kv, by omega, by omega, ?_, by go_num, ?_, ?_, ?_⟩
                · rw [HR.out, HD.out]; simp only [Ord.readOpts, if_pos HC1.out]
                  split
                  · rename_i c hc; exact absurd (by rw [hc]; rfl) HC2.out
                  · rfl
                · exact hbk2.set 1 _
                · exact hks2.setOther (a := ⟨w.heap.size, 1, none⟩) (Nat.lt_succ_self _) _
                · exact hbw2.setCell (p := ⟨w.heap.size, 1, none⟩) (Nat.le_refl _) _
              case measure => simp [intOf]; omega
          · have c1' : ((x.1.toNat : Int) == 116) = false := by rw [beq_eq_false_iff_ne]; intro h; exact c1 (by rw [u8_eq]; exact h)
            have HC1 := Lib.hid c1; clear c1
            by_cases c3 : x.1 = 107
            · have c3' : ((x.1.toNat : Int) == 107) = true := by rw [c3]; rfl
              have HC3 := Lib.hid c3; clear c3
              have e0 : w2.cell? ⟨w.heap.size, 0, none⟩ = some (.int .i64 g) := hbk2.cell 0 rfl
              go_wp2_with fail
              have hz2' : wr.heap.size + 1 ≤ w2.drew.heap.size := hz2
              have hgk := hg.below (hbw2.drew) hB
              clear e1 f1 x0
              cases hkd : Ord.keyed x.2 g with
              | none =>
                have HP : Hid (Ord.readAll l = none) := by
                  show Ord.readAll l = none
                  unfold Ord.readAll
                  rw [← HG.out, HR.out, HD.out]; simp only [Ord.readOpts, if_neg HC1.out, if_pos HC3.out, hkd]
                have hcall : Calls Tryd.prog 16 #[.string ⟨x.2.toArray⟩, .int .i64 g] w2.drew fun e w' => e = .returned (.tuple #[.pointer none, .bool false]) ∧ Below w2.drew.heap.size w2.drew w' :=
                  (keyed_any x.2 g hax _ hgk (by omega)).mono fun e w' ⟨h, hb⟩ => ⟨by unfold KeyedPost at h; rw [hkd] at h; exact h, hb⟩
                have HCALL := Lib.hid hcall
                clear hkd hcall
                have hlt1 : w.heap.size < w2.drew.heap.size := by omega
                have hlt2 : wr.heap.size < w2.drew.heap.size := by omega
                go_region_held3 (fun w' => w'.cell? ⟨wr.heap.size, 1, none⟩ = some (.string ⟨x.2.toArray⟩) ∧ w'.cell? ⟨w.heap.size, 0, none⟩ = some (.int .i64 g))
                  (first | exact ⟨x1, e0⟩ | exact ⟨(by assumption), (by assumption)⟩)
                  ((go_at_call 16; refine HCALL.out.mono ?_; rintro e w4 ⟨rfl, hb4⟩; have y1 := (hb4.cell (p := ⟨wr.heap.size, 1, none⟩) hlt2).trans x1; have y2 := (hb4.cell (p := ⟨w.heap.size, 0, none⟩) hlt1).trans e0))
                go_wp2_with fail
                go_ret2
                exact ⟨by unfold ReadPost; rw [HP.out]; rfl, hbw2.drew.trans (hb4.mono (by omega))⟩
              | some key =>
                have hcall : Calls Tryd.prog 16 #[.string ⟨x.2.toArray⟩, .int .i64 g] w2.drew fun e w' => (∃ kb, e = .returned (.tuple #[.pointer (some ⟨kb, 0, none⟩), .bool true]) ∧ w2.drew.heap.size ≤ kb ∧ KeyAt w' kb key) ∧ Below w2.drew.heap.size w2.drew w' :=
                  (keyed_any x.2 g hax _ hgk (by omega)).mono fun e w' ⟨h, hb⟩ => ⟨by unfold KeyedPost at h; rw [hkd] at h; exact h, hb⟩
                have HCALL := Lib.hid hcall
                have HKD := Lib.hid hkd
                clear hkd hcall
                have hlt1 : w.heap.size < w2.drew.heap.size := by omega
                have hlt2 : wr.heap.size < w2.drew.heap.size := by omega
                go_region_held3 (fun w' => w'.cell? ⟨wr.heap.size, 1, none⟩ = some (.string ⟨x.2.toArray⟩) ∧ w'.cell? ⟨w.heap.size, 0, none⟩ = some (.int .i64 g))
                  (first | exact ⟨x1, e0⟩ | exact ⟨(by assumption), (by assumption)⟩)
                  ((go_at_call 16; refine HCALL.out.mono ?_; rintro e w4 ⟨⟨kb, rfl, hkb, hka⟩, hb4⟩; have y1 := (hb4.cell (p := ⟨wr.heap.size, 1, none⟩) hlt2).trans x1; have y2 := (hb4.cell (p := ⟨w.heap.size, 0, none⟩) hlt1).trans e0))
                have hbk4 := hbk2.drew.keep hb4 hlt1
                have hks4 : KeysAt w4 (w.heap.size + 1) kv ks := (hks2.keep ((Below.refl _ _).drew)).keep hb4
                have hbw4 := hbw2.drew.trans (hb4.mono (by omega))
                clear hks2 hb4 x1 e0 y1 y2
                have e2 : w4.cell? ⟨w.heap.size, 2, none⟩ = some kv := hbk4.cell 2 rfl
                have f2 := hbk4.free 2
                obtain ⟨kbs, g1, g2, g3⟩ := hks4
                have G1 := Lib.hid g1
                have g1l : kbs.length ≤ k := by omega
                clear g1
                obtain ⟨i0, hi, hz0, hz1, hz2⟩ := info_parts info_key
                have hzb := hbk4.lt
                go_wp2_with (at_builtin; refine wpList_append_own _ rfl _ _ 39 rfl (w.heap.size + 1) 45 i0 (.pointer none) 1 8 Tryd.underlying39 hi hz0 hz1 hz2 rfl (by decide) _ _ _ rfl (g2.alloc _) ⟨w4.heap.size, 0, none⟩ 1 1 [ptr kb] rfl rfl (cell_one_new _ _ _) (by simp [ptr, Value.oneCell']) (by unfold maxLen; omega) (by omega) (by simp; omega) ?_; intro v' w5 hown hgrow _; obtain ⟨pa, pc, rfl⟩ := owns_slice hown; obtain ⟨hbk5, hks5, hbw5⟩ := push_facts hbk4 G1.out g2 g3 hka (by omega) hown hgrow hbw4 (Nat.le_refl _); clear hown hgrow e2 f2; have e2 : w5.cell? ⟨w.heap.size, 2, none⟩ = some kv := hbk5.cell 2 rfl; have f2 := hbk5.free 2)
                go_roundw
                case rel =>
                  refine ⟨k + 1, sep, ks ++ [key], _, by omega, by simp; omega, ?_, by go_num, hbk5.set 2 _, hks5.setOther (a := ⟨w.heap.size, 2, none⟩) (Nat.lt_succ_self _) _, hbw5.setCell (p := ⟨w.heap.size, 2, none⟩) (Nat.le_refl _) _⟩
                  rw [HR.out, HD.out]; simp only [Ord.readOpts, if_neg HC1.out, if_pos HC3.out, HKD.out]
                case measure => simp [intOf]; omega
            · have c3' : ((x.1.toNat : Int) == 107) = false := by rw [beq_eq_false_iff_ne]; intro h; exact c3 (by rw [u8_eq]; exact h)
              have HC3 := Lib.hid c3; clear c3
              go_wp2_with fail
              go_roundw
              case rel =>
                refine ⟨k + 1, sep, ks, kv, by omega, by omega, ?_, by go_num, hbk2, hks2, hbw2⟩
                rw [HR.out, HD.out]; simp only [Ord.readOpts, if_neg HC1.out, if_neg HC3.out]
              case measure => simp [intOf]; omega
        · obtain rfl : k = l.length := by omega
          have HE : Hid (Ord.readOpts g l (-1) [] = some (sep, ks)) := by show _ = _; rw [HR.out]; simp [Ord.readOpts]
          clear HR
          have e1 : wr.cell? ⟨w.heap.size, 1, none⟩ = some (.int .i64 sep) := hbk.cell 1 rfl
          have e2 : wr.cell? ⟨w.heap.size, 2, none⟩ = some kv := hbk.cell 2 rfl
          have e0 : wr.cell? ⟨w.heap.size, 0, none⟩ = some (.int .i64 g) := hbk.cell 0 rfl
          have f2 := hbk.free 2
          by_cases hs2 : sep = -2
          · have hs2' : (sep == -2) = true := by simpa using hs2
            have HP : Hid (Ord.readAll l = none) := by
              show Ord.readAll l = none
              unfold Ord.readAll
              rw [← HG.out, HE.out]; simp only [if_pos hs2]
            clear hs2
            go_wp2_with fail
            go_ret2
            exact ⟨by unfold ReadPost; rw [HP.out]; rfl, hbw⟩
          · have hs2' : (sep == -2) = false := by simpa using hs2
            obtain ⟨kbs, g1, g2, g3⟩ := hks
            obtain ⟨pk, ck, rfl⟩ := owns_slice g2
            by_cases hk0 : ks.length = 0
            · have hkl0 : kbs.length = 0 := by omega
              obtain rfl : kbs = [] := List.eq_nil_of_length_eq_zero hkl0
              obtain rfl : ks = [] := List.eq_nil_of_length_eq_zero hk0
              have HP : Hid (Ord.readAll l = some ⟨g, sep, [⟨⟨1, 0⟩, ⟨0, 0⟩, g⟩]⟩) := by
                show Ord.readAll l = _
                unfold Ord.readAll
                rw [← HG.out, HE.out]; simp only [if_neg hs2]; rfl
              have HS2 := Lib.hid hs2
              clear hk0 hkl0 g1 hs2
              go_wp2_with fail
              refine (set_any wr.heap.size ⟨⟨1, 0⟩, ⟨0, 0⟩, g⟩ .nilFunc _ (Blk.new wr _ _)).mono ?_
              rintro e w6 ⟨rfl, hka, hb6⟩
              have hbk6 := (hbk.alloc _).keep hb6 hlr
              have hbr6 : Below wr.heap.size wr w6 := ((Below.refl _ _).alloc (Nat.le_refl _) _).trans hb6
              have hks6 : KeysAt w6 (w.heap.size + 1) (.slice pk 0 ck) [] := KeysAt.keep ⟨[], rfl, g2, by simp⟩ hbr6
              have hbw6 := hbw.trans (hbr6.mono (by omega))
              have hzb := hbk6.lt
              clear hb6 hbr6 hbk e0 e1 e2 f2 g2 g3 hbw
              have e2 : w6.cell? ⟨w.heap.size, 2, none⟩ = some (.slice pk 0 ck) := hbk6.cell 2 rfl
              have f2 := hbk6.free 2
              obtain ⟨kbs, g1, g2, g3⟩ := hks6
              obtain rfl : kbs = [] := List.eq_nil_of_length_eq_zero g1
              obtain ⟨i0, hi, hz0, hz1, hz2⟩ := info_parts info_key
              clear g1
              go_wp2_with (at_builtin; refine wpList_append_own _ rfl _ _ 39 rfl (w.heap.size + 1) 45 i0 (.pointer none) 1 8 Tryd.underlying39 hi hz0 hz1 hz2 rfl (by decide) _ _ _ rfl (g2.alloc _) ⟨w6.heap.size, 0, none⟩ 1 1 [ptr wr.heap.size] rfl rfl (cell_one_new _ _ _) (by simp [ptr, Value.oneCell']) (by unfold maxLen; simp) (by simp) (by simp; omega) ?_; intro v' w5 hown hgrow _; obtain ⟨pa, pc, rfl⟩ := owns_slice hown; obtain ⟨hbk5, hks5, hbw5⟩ := push_facts hbk6 rfl g2 g3 hka (by omega) hown hgrow hbw6 (Nat.le_refl _); clear hown hgrow e2 f2; have e2 : w5.cell? ⟨w.heap.size, 2, none⟩ = some (.slice pk 0 ck) := hbk5.cell 2 rfl; have f2 := hbk5.free 2)
              go_ret2
              refine ⟨by unfold ReadPost; rw [HP.out]; exact ⟨_, rfl, Nat.le_refl _, _, hbk5.set 2 _, hks5.setOther (a := ⟨w.heap.size, 2, none⟩) (Nat.lt_succ_self _) _⟩, hbw5.setCell (p := ⟨w.heap.size, 2, none⟩) (Nat.le_refl _) _⟩
            · have hk0' : ((kbs.length : Int) == 0) = false := by rw [beq_eq_false_iff_ne]; omega
              have HP : Hid (Ord.readAll l = some ⟨g, sep, ks⟩) := by
                show Ord.readAll l = _
                unfold Ord.readAll
                rw [← HG.out, HE.out]; simp only [if_neg hs2]
                rw [if_neg]
                intro h; simp at h; exact hk0 (by rw [h]; rfl)
              have HK0 := Lib.hid hk0; clear hk0
              have HS2 := Lib.hid hs2; clear hs2
              have hks : KeysAt wr (w.heap.size + 1) (.slice pk kbs.length ck) ks := ⟨kbs, g1, g2, g3⟩
              have G1 := Lib.hid g1
              clear g1 g2 g3
              go_wp2_with fail
              go_ret2
              exact ⟨by unfold ReadPost; rw [HP.out]; exact ⟨_, rfl, Nat.le_refl _, _, hbk, hks⟩, hbw⟩

end Go.Proofs.YtnhopkjichgckaaDoor
