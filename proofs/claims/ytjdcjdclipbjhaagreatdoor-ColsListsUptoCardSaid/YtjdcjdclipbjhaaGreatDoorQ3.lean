/-
  Texts of this seat put together: Base, Gl.
-/
import Derived.Test.YtjdcjdclipbjhaaGreatDoorProg
import Derived.Test.YtjdcjdclipbjhaaGreatDoorQ2
import Derived.Shelf.Strings.SlTrimAscii
import Derived.WalkKit
import Derived.WalkSpells
import Derived.WalkLawsBesides
import Derived.Handy
import Derived.Lib.Hide
import Derived.BigQuiet
import Derived.OneCell
import Derived.BigGuardPart
import Derived.Deep.DeepCutAuto
import Derived.Deep.LoopGhost
import Derived.Laws.BytesArg
import Derived.Maps.AppendAt
import Derived.Deep.RegionLaw
import Derived.Deep.AppendLies
import Derived.Deep.RegionHeld3
import Derived.Deep.OwnRows
import Derived.Lib.QuietBelow
import Derived.Deep.RegionWith
import Derived.Lib.ParseIntBTie
import Derived.Lib.LaidTab
import Derived.Shelf.Strconv.Itoa4

/-
  What the walks lean on: a slice of bytes in memory, blocks, what outlives other calls.
  No condition.
-/
namespace Go.Proofs.YtjdcjdclipbjhaaGreatDoor
open Go.RowKit

/-- The bytes that lie behind a slice's pointer. -/
def Bs (w : World) (p : Option Addr) (xs : List UInt8) : Prop :=
  0 < xs.length → ∃ b o, p = some ⟨b, o, none⟩ ∧ ∀ i, i < xs.length → w.cell? ⟨b, o + i, none⟩ = some (.int .u8 (xs.getD i 0).toNat)

theorem Bs.nil (w : World) (p : Option Addr) : Bs w p [] := fun h => absurd h (Nat.lt_irrefl 0)

theorem Bs.below {B : Nat} {w w' : World} {p : Option Addr} {xs : List UInt8} (h : Bs w p xs) (hb : Below B w w') (hB : w.heap.size ≤ B) : Bs w' p xs := by
  intro hl
  obtain ⟨b, o, hp, hc⟩ := h hl
  refine ⟨b, o, hp, fun i hi => ?_⟩
  have hlt : b < w.heap.size := World.block_lt_of_cell? _ _ (hc i hi)
  rw [hb.cell (p := ⟨b, o + i, none⟩) (by simp; omega)]
  exact hc i hi

theorem Bs.at {w : World} {b o : Nat} {xs : List UInt8} (h : Bs w (some ⟨b, o, none⟩) xs) (i : Nat) (hi : i < xs.length) : w.cell? ⟨b, o + i, none⟩ = some (.int .u8 (xs.getD i 0).toNat) := by
  obtain ⟨b', o', hp, hc⟩ := h (by omega)
  simp at hp
  obtain ⟨rfl, rfl⟩ := hp
  exact hc i hi

/-- Behind a callee that leaves old blocks alone: old cells and marks read as before. -/
theorem bcell {W w1 : World} (hb : Below W.heap.size W w1) : (∀ b o, b < W.heap.size → w1.cell? ⟨b, o, none⟩ = W.cell? ⟨b, o, none⟩) ∧ (∀ b o, b < W.heap.size → w1.frozen? ⟨b, o, none⟩ = W.frozen? ⟨b, o, none⟩) :=
  ⟨fun b o h => hb.cell (p := ⟨b, o, none⟩) h, fun b o h => hb.frozen (p := ⟨b, o, none⟩) h⟩

/-- A callee behind a new block. -/
theorem below_new {w w1 : World} {o : Obj} (h : Below (w.alloc o).heap.size (w.alloc o) w1) : Below w.heap.size w w1 :=
  ((Below.refl _ _).alloc (Nat.le_refl _) _).trans (h.mono (by simp))

/-- An old cell behind a new block. -/
theorem new_cell {w : World} {b o : Nat} {v : Value} (h : w.cell? ⟨b, o, none⟩ = some v) : ∀ x, (w.alloc x).cell? ⟨b, o, none⟩ = some v :=
  fun x => by rw [World.cell?_alloc_lt _ _ _ (World.block_lt_of_cell? _ _ h)]; exact h
theorem new_frozen {w : World} {b o : Nat} {v : Value} (hc : w.cell? ⟨b, o, none⟩ = some v) (h : w.frozen? ⟨b, o, none⟩ = false) : ∀ x, (w.alloc x).frozen? ⟨b, o, none⟩ = false :=
  fun x => by rw [World.frozen?_alloc_old _ _ _ (Nat.ne_of_lt (World.block_lt_of_cell? _ _ hc))]; exact h

theorem Bs.drew {w : World} {p : Option Addr} {xs : List UInt8} (h : Bs w p xs) (n : Nat) : Bs (w.drewN n) p xs := by
  intro hl
  obtain ⟨b, o, hp, hc⟩ := h hl
  exact ⟨b, o, hp, fun i hi => hc i hi⟩

/-- A block of memory, known whole; none of it is frozen. -/
def Blk (w : World) (b : Nat) (cs : Array Value) (t : TypeId) : Prop := w.heap[b]? = some (.cells cs t (0, 0))

theorem Blk.lt {w : World} {b : Nat} {cs : Array Value} {t : TypeId} (h : Blk w b cs t) : b < w.heap.size := lt_of_block h
theorem Blk.cell {w : World} {b : Nat} {cs : Array Value} {t : TypeId} (h : Blk w b cs t) (i : Nat) {v : Value} (hv : cs[i]? = some v) : w.cell? ⟨b, i, none⟩ = some v := by
  unfold Blk at h; simp [World.cell?, h, hv]
theorem Blk.free {w : World} {b : Nat} {cs : Array Value} {t : TypeId} (h : Blk w b cs t) (i : Nat) : w.frozen? ⟨b, i, none⟩ = false := by
  unfold Blk at h; simp [World.frozen?, h]
theorem Blk.keep {w w' : World} {b : Nat} {cs : Array Value} {t : TypeId} (h : Blk w b cs t) {B : Nat} (hb : Below B w w') (hB : b < B) : Blk w' b cs t := (hb.block b hB).trans h
theorem Blk.new (w : World) (cs : Array Value) (t : TypeId) : Blk (w.alloc (.cells cs t)) w.heap.size cs t := heap_alloc_new w _
theorem Blk.alloc {w : World} {b : Nat} {cs : Array Value} {t : TypeId} (h : Blk w b cs t) (o : Obj) : Blk (w.alloc o) b cs t := (Below.heap_alloc w o b h.lt).trans h
theorem Blk.drew {w : World} {b : Nat} {cs : Array Value} {t : TypeId} (h : Blk w b cs t) : Blk w.drew b cs t := h
theorem Blk.drewN {w : World} {b : Nat} {cs : Array Value} {t : TypeId} (h : Blk w b cs t) (n : Nat) : Blk (w.drewN n) b cs t := h
theorem Blk.set {w : World} {b : Nat} {cs : Array Value} {t : TypeId} (h : Blk w b cs t) (i : Nat) (v : Value) : Blk (w.setCell ⟨b, i, none⟩ v) b (cs.setIfInBounds i v) t := by
  have hlt := h.lt
  have h' : w.heap[b] = .cells cs t (0, 0) := by have := h; unfold Blk at this; simpa [Array.getElem?_eq_getElem hlt] using this
  show (w.heap.modify b _)[b]? = _
  rw [Array.getElem?_eq_getElem (by simpa using hlt), Array.getElem_modify_self, h']
  rfl
theorem Blk.setOther {w : World} {b : Nat} {cs : Array Value} {t : TypeId} (h : Blk w b cs t) {a : Addr} (ha : b ≠ a.block) (v : Value) : Blk (w.setCell a v) b cs t :=
  (Below.heap_setCell w a v b ha).trans h

theorem extract_take (l : List UInt8) (k : Nat) : (⟨l.toArray⟩ : ByteArray).extract 0 k = ⟨(l.take k).toArray⟩ := by
  apply ByteArray.ext; simp [ByteArray.data_extract]
theorem extract_drop (l : List UInt8) (k : Nat) : (⟨l.toArray⟩ : ByteArray).extract k l.length = ⟨(l.drop k).toArray⟩ := by
  apply ByteArray.ext; simp [ByteArray.data_extract]
  exact List.take_of_length_le (by simp)

theorem ret_int {k : IntKind} {a b : Int} (h : a = b) : Ending.returned (.int k a) = Ending.returned (.int k b) := by rw [h]
theorem ret_bool {a b : Bool} (h : a = b) : Ending.returned (.bool a) = Ending.returned (.bool b) := by rw [h]
theorem ret_str {a b : ByteArray} (h : a = b) : Ending.returned (.string a) = Ending.returned (.string b) := by rw [h]

/-! Bytes as whole numbers. -/
theorem u8_beq (a b : UInt8) : (a == b) = ((a.toNat : Int) == (b.toNat : Int)) := by
  rw [Bool.eq_iff_iff]; simp only [beq_iff_eq]; constructor
  · rintro rfl; rfl
  · intro h; exact UInt8.toNat_inj.1 (by omega)
theorem u8_eq (a b : UInt8) : (a = b) = ((a.toNat : Int) = (b.toNat : Int)) := by
  apply propext; constructor
  · rintro rfl; rfl
  · intro h; exact UInt8.toNat_inj.1 (by omega)
theorem u8_le (a b : UInt8) : (a ≤ b) = ((a.toNat : Int) ≤ (b.toNat : Int)) := by
  apply propext; rw [UInt8.le_iff_toNat_le]; omega
theorem u8_lt (a b : UInt8) : (a < b) = ((a.toNat : Int) < (b.toNat : Int)) := by
  apply propext; rw [UInt8.lt_iff_toNat_lt]; omega
theorem u8_or (a b : UInt8) : bits .or .u8 (a.toNat : Int) (b.toNat : Int) = ((a ||| b).toNat : Int) := by
  rw [Go.u8_or_nat _ _ a.toNat_lt b.toNat_lt, UInt8.toNat_or]
theorem u8_bd (a : UInt8) : (0 : Int) ≤ (a.toNat : Int) ∧ (a.toNat : Int) < 256 := ⟨by omega, by have := a.toNat_lt; omega⟩

/-- Of what was there nothing has turned, but for some blocks. -/
structure Kept (S : Nat → Prop) (w w' : World) : Prop where
  os : w'.os = w.os
  tape : w'.tape = w.tape
  output : w'.output = w.output
  size : w.heap.size ≤ w'.heap.size
  block : ∀ k, k < w.heap.size → ¬ S k → w'.heap[k]? = w.heap[k]?

theorem Kept.refl (S : Nat → Prop) (w : World) : Kept S w w := ⟨rfl, rfl, rfl, Nat.le_refl _, fun _ _ _ => rfl⟩
theorem Kept.of_below {S : Nat → Prop} {w w' : World} (h : Below w.heap.size w w') : Kept S w w' := ⟨h.os, h.tape, h.output, h.size, fun k hk _ => h.block k hk⟩
theorem Kept.trans {S : Nat → Prop} {w w' w'' : World} (h : Kept S w w') (h2 : Kept S w' w'') : Kept S w w'' :=
  ⟨h2.os.trans h.os, h2.tape.trans h.tape, h2.output.trans h.output, Nat.le_trans h.size h2.size, fun k hk hs => (h2.block k (Nat.lt_of_lt_of_le hk h.size) hs).trans (h.block k hk hs)⟩
/-- Whatever the second part turns beside lies in new memory. -/
theorem Kept.trans' {S T : Nat → Prop} {w w' w'' : World} (h : Kept S w w') (h2 : Kept T w' w'') (hT : ∀ k, k < w.heap.size → T k → S k) : Kept S w w'' :=
  ⟨h2.os.trans h.os, h2.tape.trans h.tape, h2.output.trans h.output, Nat.le_trans h.size h2.size, fun k hk hs => (h2.block k (Nat.lt_of_lt_of_le hk h.size) fun ht => hs (hT k hk ht)).trans (h.block k hk hs)⟩
theorem Kept.mono {S T : Nat → Prop} {w w' : World} (h : Kept S w w') (hT : ∀ k, k < w.heap.size → S k → T k) : Kept T w w' :=
  ⟨h.os, h.tape, h.output, h.size, fun k hk hs => h.block k hk fun ht => hs (hT k hk ht)⟩
theorem Kept.alloc {S : Nat → Prop} {w w' : World} (h : Kept S w w') (o : Obj) : Kept S w (w'.alloc o) :=
  h.trans (Kept.of_below ((Below.refl _ _).alloc (Nat.le_refl _) _))
theorem Kept.drew {S : Nat → Prop} {w w' : World} (h : Kept S w w') : Kept S w w'.drew := ⟨h.os, h.tape, h.output, h.size, h.block⟩
theorem Kept.below {w w' : World} (h : Kept (fun _ => False) w w') : Below w.heap.size w w' := ⟨h.os, h.tape, h.output, h.size, fun k hk => h.block k hk id⟩
theorem Blk.kept {S : Nat → Prop} {w w' : World} {b : Nat} {cs : Array Value} {t : TypeId} (h : Blk w b cs t) (hk : Kept S w w') (hS : ¬ S b) : Blk w' b cs t := (hk.block b h.lt hS).trans h

theorem Kept.setCell {S : Nat → Prop} {w w' : World} (h : Kept S w w') {b : Nat} (hb : S b ∨ w.heap.size ≤ b) (i : Nat) (v : Value) : Kept S w (w'.setCell ⟨b, i, none⟩ v) :=
  ⟨h.os, h.tape, h.output, by simpa [World.setCell] using h.size, fun k hk hs => (Below.heap_setCell w' ⟨b, i, none⟩ v k (by
    rintro rfl
    rcases hb with hb | hb
    · exact hs hb
    · have hb' : w.heap.size ≤ k := hb
      omega)).trans (h.block k hk hs)⟩

/-! Bytes and texts. -/
abbrev Bts := List UInt8
theorem byte_at {s : Bts} {a : Nat} (h : a < s.length) : ∃ c, s.drop a = c :: s.drop (a + 1) ∧ ∀ h, (⟨s.toArray⟩ : ByteArray)[a]'h = c :=
  ⟨s[a], by rw [List.drop_eq_getElem_cons h], fun _ => rfl⟩
theorem str_nil (s : Bts) : ((⟨s.toArray⟩ : ByteArray) == ⟨#[]⟩) = s.isEmpty := by
  cases s with
  | nil => rfl
  | cons c r =>
    have : ((c :: r).toArray == (#[] : Array UInt8)) = false := by
      rw [beq_eq_false_iff_ne]
      intro e
      have := congrArg Array.size e
      simp at this
    exact this
theorem u8_ne {a b : UInt8} (h : ¬ a = b) : ¬ ((a.toNat : Int) = (b.toNat : Int)) := fun e => h (UInt8.toNat_inj.1 (by omega))
theorem extract_from (s : Bts) (k : Nat) : (⟨s.toArray⟩ : ByteArray).extract k s.length = ⟨(s.drop k).toArray⟩ := extract_drop s k
theorem u8_nat {c : UInt8} {n : Nat} (h : n < 256) : ((c.toNat : Int) = (n : Int)) ↔ c = UInt8.ofNat n := by
  constructor
  · intro e
    apply UInt8.toNat_inj.1
    rw [UInt8.toNat_ofNat_of_lt' h]
    omega
  · intro e
    rw [e, UInt8.toNat_ofNat_of_lt' h]
theorem u8_lit {c : UInt8} {n : Nat} (h : ¬ c = UInt8.ofNat n) (hn : n < 256) : ¬ ((c.toNat : Int) = (n : Int)) := fun e => h ((u8_nat hn).1 e)
theorem extr_take (l : List UInt8) (k : Nat) : (⟨l.toArray⟩ : ByteArray).extract 0 k = ⟨(l.take k).toArray⟩ := extract_take l k
theorem rowIs_below {w w' : World} {b : Nat} {t : TypeId} {n : Nat} {f : Nat → Value} (h : w.rowIs b t n f) (hb : Below w.heap.size w w') : w'.rowIs b t n f := h.of_block (hb.block b h.lt)
theorem own_slice {w : World} {B : Nat} {t : TypeId} {size n : Nat} {v : Value} {xs : List Value} (h : w.ownsRow B t size v (n + 1) xs) : ∃ g c, v = .slice (some ⟨g, 0, none⟩) (n + 1) c := by
  obtain ⟨h1, ⟨-, h2⟩ | ⟨g, cap, cur, e, -⟩⟩ := h
  · exact absurd h2 (by omega)
  · exact ⟨g, cap, e⟩
theorem str_ne {s t : Bts} (h : s ≠ t) : ((⟨s.toArray⟩ : ByteArray) == ⟨t.toArray⟩) = false := by
  show (s.toArray == t.toArray) = false
  rw [beq_eq_false_iff_ne]; intro e
  exact h (by simpa using e)
theorem below_drew2 (w : World) : Below w.heap.size w w.drew := ⟨rfl, rfl, rfl, Nat.le_refl _, fun _ _ => rfl⟩
theorem var?_same {P : Program} {g : Nat} {W W' : World} {n : String} {cs : Array Value} (h : W'.heap[g]? = W.heap[g]?) (hg : P.globalNamed n = some g) (hv : W.var? P n = some cs) : W'.var? P n = some cs := by
  unfold World.var? at hv ⊢
  simp only [hg, Option.bind_some] at hv ⊢
  rw [h]
  exact hv
theorem below_drew (q : Nat) (w : World) : Below q w w.drew := ⟨rfl, rfl, rfl, Nat.le_refl _, fun _ _ => rfl⟩

/-! Rows of the call's own. -/
theorem own_kept {S : Nat → Prop} {w w' : World} {B : Nat} {t : TypeId} {size n : Nat} {v : Value} {xs : List Value} (h : w.ownsRow B t size v n xs) (hk : Kept S w w') (hS : ∀ k, v.ownBlock = some k → ¬ S k) : w'.ownsRow B t size v n xs := by
  obtain ⟨h1, h2 | ⟨g, cap, cur, e, hg, hb, r⟩⟩ := h
  · exact ⟨h1, .inl h2⟩
  · exact ⟨h1, .inr ⟨g, cap, cur, e, hg, (hk.block g (lt_of_block hb) (hS g (by rw [e]; rfl))).trans hb, r⟩⟩
theorem kept_grown {w w2 w1 : World} {o : Option Nat} (h : Kept (fun _ => False) w w2) (hg : w2.grownBy w1 o) : Kept (fun k => o = some k) w w1 :=
  ⟨hg.os.trans h.os, hg.tape.trans h.tape, hg.output.trans h.output, Nat.le_trans h.size hg.size, fun k hk hs => (hg.block k (Nat.lt_of_lt_of_le hk h.size) fun e => hs e.symm).trans (h.block k hk id)⟩
theorem own_mono {w : World} {B C : Nat} {t : TypeId} {size n : Nat} {v : Value} {xs : List Value} (h : w.ownsRow B t size v n xs) (hBC : C ≤ B) : w.ownsRow C t size v n xs := by
  obtain ⟨h1, h2 | ⟨g, cap, cur, e, hg, r⟩⟩ := h
  · exact ⟨h1, .inl h2⟩
  · exact ⟨h1, .inr ⟨g, cap, cur, e, Nat.le_trans hBC hg, r⟩⟩
theorem below_of_kept {S : Nat → Prop} {B : Nat} {w w' : World} (h : Kept S w w') (hS : ∀ k, S k → B ≤ k) (hB : B ≤ w.heap.size) : Below B w w' :=
  ⟨h.os, h.tape, h.output, h.size, fun k hk => h.block k (by omega) fun hs => by have := hS k hs; omega⟩
theorem cells_new (w : World) (cs : Array Value) (t : TypeId) : ∀ j u, cs.toList[j]? = some u → (w.alloc (.cells cs t)).cell? ((⟨w.heap.size, 0, none⟩ : Addr).add j) = some u := by
  intro j u hj
  have hj' : cs[j]? = some u := by simpa using hj
  rw [show ((⟨w.heap.size, 0, none⟩ : Addr).add j) = ⟨w.heap.size, j, none⟩ by simp only [Addr.add, Nat.zero_add]; split <;> simp_all]
  exact (Blk.new w cs t).cell j hj'
theorem below_drewN (w : World) (k : Nat) : Below w.heap.size w (w.drewN k) := ⟨rfl, rfl, rfl, Nat.le_refl _, fun _ _ => rfl⟩

/-! Bytes as texts. -/
def nums (xs : List UInt8) : List Int := xs.map fun c => (c.toNat : Int)
theorem nums_length (xs : List UInt8) : (nums xs).length = xs.length := by simp [nums]
theorem nums_getD (xs : List UInt8) (i : Nat) (hi : i < xs.length) : (nums xs).getD i 0 = ((xs.getD i 0).toNat : Int) := by
  simp [nums, List.getD_eq_getElem?_getD, List.getElem?_eq_getElem hi]
theorem strOf_nums (xs : List UInt8) : strOfNums (nums xs) = ⟨xs.toArray⟩ := by
  have h : (nums xs).map (fun n => UInt8.ofNat n.toNat) = xs := by
    unfold nums
    rw [List.map_map]
    conv => rhs; rw [← List.map_id xs]
    apply List.map_congr_left
    intro c _
    simp
  unfold strOfNums
  rw [h]

theorem run_str {w : World} {p : Option Addr} {xs : List UInt8} (h : Bs w p xs) (c : Nat) :
    (convert 33 9 (.slice p xs.length c)).run Tryz.prog w = .ok (.string ⟨xs.toArray⟩) w := by
  rw [← strOf_nums]
  rcases Nat.eq_zero_or_pos xs.length with hn | hn
  · obtain rfl : xs = [] := List.eq_nil_of_length_eq_zero hn
    rw [show (([] : List UInt8).length) = 0 from rfl, run_convert_bytes_string w 33 9 5 _ 0 c Tryz.underlying33 Tryz.underlying5 Tryz.underlying9]
    cases p <;> simp [Conv.bytesToString, loadCells]
    all_goals rfl
  · obtain ⟨b, o, rfl, hc⟩ := h hn
    exact run_convert_bytes_arg (P := Tryz.prog) w 33 5 Tryz.underlying33 Tryz.underlying5 b o xs.length c (nums xs) (nums_length xs) (fun i hi => by rw [hc i hi, nums_getD xs i hi]) 9 Tryz.underlying9

theorem bs_one (w : World) (c : UInt8) (T : TypeId) : Bs (w.alloc (.cells #[.int .u8 c.toNat] T)) (some ⟨w.heap.size, 0, none⟩) [c] := by
  intro _
  refine ⟨w.heap.size, 0, rfl, fun i hi => ?_⟩
  obtain rfl : i = 0 := by simpa using hi
  rw [Lib.cell_of_heap (heap_alloc_new w _)]
  rfl
def u8V (c : UInt8) : Value := .int .u8 c.toNat
theorem info_str : (Tryz.prog.info? 9).map (fun i => (i.zero, i.size, i.bytes)) = some (some (.string ⟨#[]⟩), 1, 16) := by kernel_rfl
theorem bs_of_own {w : World} {B : Nat} {bv : Value} {cur : Bts} (h : w.ownsRow B 5 1 bv cur.length (cur.map u8V)) : ∃ p c, bv = .slice p cur.length c ∧ Bs w p cur := by
  rcases h.2 with ⟨h1, h2⟩ | ⟨g, cap, cs, rfl, -⟩
  · refine ⟨none, 0, by rw [h2]; exact h1, ?_⟩
    intro h0; omega
  · refine ⟨_, _, rfl, fun _ => ⟨g, 0, rfl, fun i hi => ?_⟩⟩
    have := h.cellAt i (by omega)
    rw [Nat.zero_add, this]
    simp [List.getD_eq_getElem?_getD, hi, u8V]
theorem info_byte : (Tryz.prog.info? 5).map (fun i => (i.zero, i.size, i.bytes)) = some (some (.int .u8 0), 1, 1) := by kernel_rfl

end Go.Proofs.YtjdcjdclipbjhaaGreatDoor

/-
  What the library's variables hold, and that it stays. No condition.
-/
namespace Go.Proofs.YtjdcjdclipbjhaaGreatDoor
open Go.RowKit Go.Shelf

/-! What the library's variables hold. -/
structure Glo (w : World) : Prop where
  syn : ∃ tp p, w.var? Tryz.prog "strconv.ErrSyntax" = some #[.iface tp p]
  rng : ∃ tp p, w.var? Tryz.prog "strconv.ErrRange" = some #[.iface tp p]
  mx : ∃ m, w.cell? ⟨0, 0, none⟩ = some (.int .i64 m)
  tab : Lib.TabIs Tryz.prog w "internal/strconv.uint64pow10" .u64 Lib.pow10Tab
  big : 8 ≤ w.heap.size

theorem gSyn : Tryz.prog.globalNamed "strconv.ErrSyntax" = some 6 := by kernel_rfl
theorem gPow : Tryz.prog.globalNamed "internal/strconv.uint64pow10" = some 1 := by kernel_rfl
theorem gRng : Tryz.prog.globalNamed "strconv.ErrRange" = some 7 := by kernel_rfl

theorem Glo.kept {S : Nat → Prop} {w w' : World} (h : Glo w) (hk : Kept S w w') (hS : ∀ k, S k → 8 ≤ k) : Glo w' := by
  obtain ⟨⟨t1, p1, h1⟩, ⟨t2, p2, h2⟩, ⟨m, h3⟩, h4, h8⟩ := h
  have hb : ∀ g, g < 8 → w'.heap[g]? = w.heap[g]? := fun g hg => hk.block g (by omega) (fun hs => absurd (hS g hs) (by omega))
  refine ⟨⟨t1, p1, var?_same (hb _ (by decide)) gSyn h1⟩, ⟨t2, p2, var?_same (hb _ (by decide)) gRng h2⟩, ⟨m, ?_⟩, ?_, Nat.le_trans h8 hk.size⟩
  · have := hb 0 (by decide)
    unfold World.cell? at h3 ⊢
    simp only [this]
    exact h3
  · exact var?_same (hb _ (by decide)) gPow h4
theorem Glo.below {w w' : World} (h : Glo w) (hb : Below w.heap.size w w') : Glo w' := h.kept (Kept.of_below (S := fun _ => False) hb) fun _ h => h.elim
theorem Glo.from {w0 w' : World} (h : Glo w0) (hb : Below w0.heap.size w0 w') : Glo w' := h.below hb

end Go.Proofs.YtjdcjdclipbjhaaGreatDoor
