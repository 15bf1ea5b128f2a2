/-
  What the walks of this seat lean on: a slice of bytes in memory, and facts that outlive new blocks.
  No condition.
-/
import Derived.Test.YtfoehfehnmhhmaaGreatDoorProg
import Derived.Test.YtfoehfehnmhhmaaGreatDoorShelf
import Derived.Shelf.Strings.SlTrimAscii
import Derived.WalkKit
import Derived.WalkSpells
import Derived.WalkLawsBesides
import Derived.Handy
import Derived.Lib.Hide
import Derived.BigQuiet
import Derived.OneCell
import Derived.BigGuardPart
import Derived.Deep.DeepCutAuto
import Derived.Deep.LoopGhost
namespace Go.Proofs.YtfoehfehnmhhmaaGreatDoor
open Go.RowKit

/-- The bytes that lie behind a slice's pointer. -/
def Bs (w : World) (p : Option Addr) (xs : List UInt8) : Prop :=
  0 < xs.length → ∃ b o, p = some ⟨b, o, none⟩ ∧ ∀ i, i < xs.length → w.cell? ⟨b, o + i, none⟩ = some (.int .u8 (xs.getD i 0).toNat)

theorem Bs.nil (w : World) (p : Option Addr) : Bs w p [] := fun h => absurd h (Nat.lt_irrefl 0)

theorem Bs.below {B : Nat} {w w' : World} {p : Option Addr} {xs : List UInt8} (h : Bs w p xs) (hb : Below B w w') (hB : w.heap.size ≤ B) : Bs w' p xs := by
  intro hl
  obtain ⟨b, o, hp, hc⟩ := h hl
  refine ⟨b, o, hp, fun i hi => ?_⟩
  have hlt : b < w.heap.size := World.block_lt_of_cell? _ _ (hc i hi)
  rw [hb.cell (p := ⟨b, o + i, none⟩) (by simp; omega)]
  exact hc i hi

theorem Bs.at {w : World} {b o : Nat} {xs : List UInt8} (h : Bs w (some ⟨b, o, none⟩) xs) (i : Nat) (hi : i < xs.length) : w.cell? ⟨b, o + i, none⟩ = some (.int .u8 (xs.getD i 0).toNat) := by
  obtain ⟨b', o', hp, hc⟩ := h (by omega)
  simp at hp
  obtain ⟨rfl, rfl⟩ := hp
  exact hc i hi

/-- Behind a callee that leaves old blocks alone: old cells and marks read as before. -/
theorem bcell {W w1 : World} (hb : Below W.heap.size W w1) : (∀ b o, b < W.heap.size → w1.cell? ⟨b, o, none⟩ = W.cell? ⟨b, o, none⟩) ∧ (∀ b o, b < W.heap.size → w1.frozen? ⟨b, o, none⟩ = W.frozen? ⟨b, o, none⟩) :=
  ⟨fun b o h => hb.cell (p := ⟨b, o, none⟩) h, fun b o h => hb.frozen (p := ⟨b, o, none⟩) h⟩

/-- A callee behind a new block. -/
theorem below_new {w w1 : World} {o : Obj} (h : Below (w.alloc o).heap.size (w.alloc o) w1) : Below w.heap.size w w1 :=
  ((Below.refl _ _).alloc (Nat.le_refl _) _).trans (h.mono (by simp))

/-- An old cell behind a new block. -/
theorem new_cell {w : World} {b o : Nat} {v : Value} (h : w.cell? ⟨b, o, none⟩ = some v) : ∀ x, (w.alloc x).cell? ⟨b, o, none⟩ = some v :=
  fun x => by rw [World.cell?_alloc_lt _ _ _ (World.block_lt_of_cell? _ _ h)]; exact h
theorem new_frozen {w : World} {b o : Nat} {v : Value} (hc : w.cell? ⟨b, o, none⟩ = some v) (h : w.frozen? ⟨b, o, none⟩ = false) : ∀ x, (w.alloc x).frozen? ⟨b, o, none⟩ = false :=
  fun x => by rw [World.frozen?_alloc_old _ _ _ (Nat.ne_of_lt (World.block_lt_of_cell? _ _ hc))]; exact h

theorem Bs.drew {w : World} {p : Option Addr} {xs : List UInt8} (h : Bs w p xs) (n : Nat) : Bs (w.drewN n) p xs := by
  intro hl
  obtain ⟨b, o, hp, hc⟩ := h hl
  exact ⟨b, o, hp, fun i hi => hc i hi⟩

/-- A block of memory, known whole; none of it is frozen. -/
def Blk (w : World) (b : Nat) (cs : Array Value) (t : TypeId) : Prop := w.heap[b]? = some (.cells cs t (0, 0))

theorem Blk.lt {w : World} {b : Nat} {cs : Array Value} {t : TypeId} (h : Blk w b cs t) : b < w.heap.size := lt_of_block h
theorem Blk.cell {w : World} {b : Nat} {cs : Array Value} {t : TypeId} (h : Blk w b cs t) (i : Nat) {v : Value} (hv : cs[i]? = some v) : w.cell? ⟨b, i, none⟩ = some v := by
  unfold Blk at h; simp [World.cell?, h, hv]
theorem Blk.free {w : World} {b : Nat} {cs : Array Value} {t : TypeId} (h : Blk w b cs t) (i : Nat) : w.frozen? ⟨b, i, none⟩ = false := by
  unfold Blk at h; simp [World.frozen?, h]
theorem Blk.keep {w w' : World} {b : Nat} {cs : Array Value} {t : TypeId} (h : Blk w b cs t) {B : Nat} (hb : Below B w w') (hB : b < B) : Blk w' b cs t := (hb.block b hB).trans h
theorem Blk.new (w : World) (cs : Array Value) (t : TypeId) : Blk (w.alloc (.cells cs t)) w.heap.size cs t := heap_alloc_new w _
theorem Blk.alloc {w : World} {b : Nat} {cs : Array Value} {t : TypeId} (h : Blk w b cs t) (o : Obj) : Blk (w.alloc o) b cs t := (Below.heap_alloc w o b h.lt).trans h
theorem Blk.drew {w : World} {b : Nat} {cs : Array Value} {t : TypeId} (h : Blk w b cs t) : Blk w.drew b cs t := h
theorem Blk.drewN {w : World} {b : Nat} {cs : Array Value} {t : TypeId} (h : Blk w b cs t) (n : Nat) : Blk (w.drewN n) b cs t := h
theorem Blk.set {w : World} {b : Nat} {cs : Array Value} {t : TypeId} (h : Blk w b cs t) (i : Nat) (v : Value) : Blk (w.setCell ⟨b, i, none⟩ v) b (cs.setIfInBounds i v) t := by
  have hlt := h.lt
  have h' : w.heap[b] = .cells cs t (0, 0) := by have := h; unfold Blk at this; simpa [Array.getElem?_eq_getElem hlt] using this
  show (w.heap.modify b _)[b]? = _
  rw [Array.getElem?_eq_getElem (by simpa using hlt), Array.getElem_modify_self, h']
  rfl
theorem Blk.setOther {w : World} {b : Nat} {cs : Array Value} {t : TypeId} (h : Blk w b cs t) {a : Addr} (ha : b ≠ a.block) (v : Value) : Blk (w.setCell a v) b cs t :=
  (Below.heap_setCell w a v b ha).trans h

theorem extract_take (l : List UInt8) (k : Nat) : (⟨l.toArray⟩ : ByteArray).extract 0 k = ⟨(l.take k).toArray⟩ := by
  apply ByteArray.ext; simp [ByteArray.data_extract]
theorem extract_drop (l : List UInt8) (k : Nat) : (⟨l.toArray⟩ : ByteArray).extract k l.length = ⟨(l.drop k).toArray⟩ := by
  apply ByteArray.ext; simp [ByteArray.data_extract]
  exact List.take_of_length_le (by simp)

theorem ret_int {k : IntKind} {a b : Int} (h : a = b) : Ending.returned (.int k a) = Ending.returned (.int k b) := by rw [h]
theorem ret_bool {a b : Bool} (h : a = b) : Ending.returned (.bool a) = Ending.returned (.bool b) := by rw [h]
theorem ret_str {a b : ByteArray} (h : a = b) : Ending.returned (.string a) = Ending.returned (.string b) := by rw [h]

/-! Bytes as whole numbers. -/
theorem u8_beq (a b : UInt8) : (a == b) = ((a.toNat : Int) == (b.toNat : Int)) := by
  rw [Bool.eq_iff_iff]; simp only [beq_iff_eq]; constructor
  · rintro rfl; rfl
  · intro h; exact UInt8.toNat_inj.1 (by omega)
theorem u8_eq (a b : UInt8) : (a = b) = ((a.toNat : Int) = (b.toNat : Int)) := by
  apply propext; constructor
  · rintro rfl; rfl
  · intro h; exact UInt8.toNat_inj.1 (by omega)
theorem u8_le (a b : UInt8) : (a ≤ b) = ((a.toNat : Int) ≤ (b.toNat : Int)) := by
  apply propext; rw [UInt8.le_iff_toNat_le]; omega
theorem u8_lt (a b : UInt8) : (a < b) = ((a.toNat : Int) < (b.toNat : Int)) := by
  apply propext; rw [UInt8.lt_iff_toNat_lt]; omega
theorem u8_or (a b : UInt8) : bits .or .u8 (a.toNat : Int) (b.toNat : Int) = ((a ||| b).toNat : Int) := by
  rw [Go.u8_or_nat _ _ a.toNat_lt b.toNat_lt, UInt8.toNat_or]
theorem u8_bd (a : UInt8) : (0 : Int) ≤ (a.toNat : Int) ∧ (a.toNat : Int) < 256 := ⟨by omega, by have := a.toNat_lt; omega⟩

/-- Of what was there nothing has turned, but for some blocks. -/
structure Kept (S : Nat → Prop) (w w' : World) : Prop where
  os : w'.os = w.os
  tape : w'.tape = w.tape
  output : w'.output = w.output
  size : w.heap.size ≤ w'.heap.size
  block : ∀ k, k < w.heap.size → ¬ S k → w'.heap[k]? = w.heap[k]?

theorem Kept.refl (S : Nat → Prop) (w : World) : Kept S w w := ⟨rfl, rfl, rfl, Nat.le_refl _, fun _ _ _ => rfl⟩
theorem Kept.of_below {S : Nat → Prop} {w w' : World} (h : Below w.heap.size w w') : Kept S w w' := ⟨h.os, h.tape, h.output, h.size, fun k hk _ => h.block k hk⟩
theorem Kept.trans {S : Nat → Prop} {w w' w'' : World} (h : Kept S w w') (h2 : Kept S w' w'') : Kept S w w'' :=
  ⟨h2.os.trans h.os, h2.tape.trans h.tape, h2.output.trans h.output, Nat.le_trans h.size h2.size, fun k hk hs => (h2.block k (Nat.lt_of_lt_of_le hk h.size) hs).trans (h.block k hk hs)⟩
/-- Whatever the second part turns beside lies in new memory. -/
theorem Kept.trans' {S T : Nat → Prop} {w w' w'' : World} (h : Kept S w w') (h2 : Kept T w' w'') (hT : ∀ k, k < w.heap.size → T k → S k) : Kept S w w'' :=
  ⟨h2.os.trans h.os, h2.tape.trans h.tape, h2.output.trans h.output, Nat.le_trans h.size h2.size, fun k hk hs => (h2.block k (Nat.lt_of_lt_of_le hk h.size) fun ht => hs (hT k hk ht)).trans (h.block k hk hs)⟩
theorem Kept.mono {S T : Nat → Prop} {w w' : World} (h : Kept S w w') (hT : ∀ k, k < w.heap.size → S k → T k) : Kept T w w' :=
  ⟨h.os, h.tape, h.output, h.size, fun k hk hs => h.block k hk fun ht => hs (hT k hk ht)⟩
theorem Kept.alloc {S : Nat → Prop} {w w' : World} (h : Kept S w w') (o : Obj) : Kept S w (w'.alloc o) :=
  h.trans (Kept.of_below ((Below.refl _ _).alloc (Nat.le_refl _) _))
theorem Kept.drew {S : Nat → Prop} {w w' : World} (h : Kept S w w') : Kept S w w'.drew := ⟨h.os, h.tape, h.output, h.size, h.block⟩
theorem Kept.below {w w' : World} (h : Kept (fun _ => False) w w') : Below w.heap.size w w' := ⟨h.os, h.tape, h.output, h.size, fun k hk => h.block k hk id⟩
theorem Blk.kept {S : Nat → Prop} {w w' : World} {b : Nat} {cs : Array Value} {t : TypeId} (h : Blk w b cs t) (hk : Kept S w w') (hS : ¬ S b) : Blk w' b cs t := (hk.block b h.lt hS).trans h

theorem Kept.setCell {S : Nat → Prop} {w w' : World} (h : Kept S w w') {b : Nat} (hb : S b ∨ w.heap.size ≤ b) (i : Nat) (v : Value) : Kept S w (w'.setCell ⟨b, i, none⟩ v) :=
  ⟨h.os, h.tape, h.output, by simpa [World.setCell] using h.size, fun k hk hs => (Below.heap_setCell w' ⟨b, i, none⟩ v k (by
    rintro rfl
    rcases hb with hb | hb
    · exact hs hb
    · have hb' : w.heap.size ≤ k := hb
      omega)).trans (h.block k hk hs)⟩

end Go.Proofs.YtfoehfehnmhhmaaGreatDoor
