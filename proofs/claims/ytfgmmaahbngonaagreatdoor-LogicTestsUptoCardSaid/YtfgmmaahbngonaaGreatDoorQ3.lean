/-
  Texts of this seat put together: Base, Gl, Num, Lg.
-/
import Derived.Test.YtfgmmaahbngonaaGreatDoorProg
import Derived.Test.YtfgmmaahbngonaaGreatDoorQ2
import Derived.Shelf.Strings.SlTrimAscii
import Derived.WalkKit
import Derived.WalkSpells
import Derived.WalkLawsBesides
import Derived.Handy
import Derived.Lib.Hide
import Derived.BigQuiet
import Derived.OneCell
import Derived.BigGuardPart
import Derived.Deep.DeepCutAuto
import Derived.Deep.LoopGhost
import Derived.Laws.BytesArg
import Derived.Maps.AppendAt
import Derived.Deep.RegionLaw
import Derived.Deep.AppendLies
import Derived.Deep.RegionHeld3
import Derived.Deep.OwnRows
import Derived.Lib.QuietBelow
import Derived.Deep.RegionWith
import Derived.Lib.ParseIntBTie
import Derived.Lib.LaidTab
import Derived.Shelf.Strconv.Itoa4
import Derived.Lib.ItoaNum
import Derived.Lib.ItoaMem
import Derived.Lib.ItoaLen
import Derived.Lib.Bytealg

/-
  What the walks lean on: a slice of bytes in memory, blocks, what outlives other calls.
  No condition.
-/
namespace Go.Proofs.YtfgmmaahbngonaaGreatDoor
open Go.RowKit

/-- The bytes that lie behind a slice's pointer. -/
def Bs (w : World) (p : Option Addr) (xs : List UInt8) : Prop :=
  0 < xs.length → ∃ b o, p = some ⟨b, o, none⟩ ∧ ∀ i, i < xs.length → w.cell? ⟨b, o + i, none⟩ = some (.int .u8 (xs.getD i 0).toNat)

theorem Bs.nil (w : World) (p : Option Addr) : Bs w p [] := fun h => absurd h (Nat.lt_irrefl 0)

theorem Bs.below {B : Nat} {w w' : World} {p : Option Addr} {xs : List UInt8} (h : Bs w p xs) (hb : Below B w w') (hB : w.heap.size ≤ B) : Bs w' p xs := by
  intro hl
  obtain ⟨b, o, hp, hc⟩ := h hl
  refine ⟨b, o, hp, fun i hi => ?_⟩
  have hlt : b < w.heap.size := World.block_lt_of_cell? _ _ (hc i hi)
  rw [hb.cell (p := ⟨b, o + i, none⟩) (by simp; omega)]
  exact hc i hi

theorem Bs.at {w : World} {b o : Nat} {xs : List UInt8} (h : Bs w (some ⟨b, o, none⟩) xs) (i : Nat) (hi : i < xs.length) : w.cell? ⟨b, o + i, none⟩ = some (.int .u8 (xs.getD i 0).toNat) := by
  obtain ⟨b', o', hp, hc⟩ := h (by omega)
  simp at hp
  obtain ⟨rfl, rfl⟩ := hp
  exact hc i hi

/-- Behind a callee that leaves old blocks alone: old cells and marks read as before. -/
theorem bcell {W w1 : World} (hb : Below W.heap.size W w1) : (∀ b o, b < W.heap.size → w1.cell? ⟨b, o, none⟩ = W.cell? ⟨b, o, none⟩) ∧ (∀ b o, b < W.heap.size → w1.frozen? ⟨b, o, none⟩ = W.frozen? ⟨b, o, none⟩) :=
  ⟨fun b o h => hb.cell (p := ⟨b, o, none⟩) h, fun b o h => hb.frozen (p := ⟨b, o, none⟩) h⟩

/-- A callee behind a new block. -/
theorem below_new {w w1 : World} {o : Obj} (h : Below (w.alloc o).heap.size (w.alloc o) w1) : Below w.heap.size w w1 :=
  ((Below.refl _ _).alloc (Nat.le_refl _) _).trans (h.mono (by simp))

/-- An old cell behind a new block. -/
theorem new_cell {w : World} {b o : Nat} {v : Value} (h : w.cell? ⟨b, o, none⟩ = some v) : ∀ x, (w.alloc x).cell? ⟨b, o, none⟩ = some v :=
  fun x => by rw [World.cell?_alloc_lt _ _ _ (World.block_lt_of_cell? _ _ h)]; exact h
theorem new_frozen {w : World} {b o : Nat} {v : Value} (hc : w.cell? ⟨b, o, none⟩ = some v) (h : w.frozen? ⟨b, o, none⟩ = false) : ∀ x, (w.alloc x).frozen? ⟨b, o, none⟩ = false :=
  fun x => by rw [World.frozen?_alloc_old _ _ _ (Nat.ne_of_lt (World.block_lt_of_cell? _ _ hc))]; exact h

theorem Bs.drew {w : World} {p : Option Addr} {xs : List UInt8} (h : Bs w p xs) (n : Nat) : Bs (w.drewN n) p xs := by
  intro hl
  obtain ⟨b, o, hp, hc⟩ := h hl
  exact ⟨b, o, hp, fun i hi => hc i hi⟩

/-- A block of memory, known whole; none of it is frozen. -/
def Blk (w : World) (b : Nat) (cs : Array Value) (t : TypeId) : Prop := w.heap[b]? = some (.cells cs t (0, 0))

theorem Blk.lt {w : World} {b : Nat} {cs : Array Value} {t : TypeId} (h : Blk w b cs t) : b < w.heap.size := lt_of_block h
theorem Blk.cell {w : World} {b : Nat} {cs : Array Value} {t : TypeId} (h : Blk w b cs t) (i : Nat) {v : Value} (hv : cs[i]? = some v) : w.cell? ⟨b, i, none⟩ = some v := by
  unfold Blk at h; simp [World.cell?, h, hv]
theorem Blk.free {w : World} {b : Nat} {cs : Array Value} {t : TypeId} (h : Blk w b cs t) (i : Nat) : w.frozen? ⟨b, i, none⟩ = false := by
  unfold Blk at h; simp [World.frozen?, h]
theorem Blk.keep {w w' : World} {b : Nat} {cs : Array Value} {t : TypeId} (h : Blk w b cs t) {B : Nat} (hb : Below B w w') (hB : b < B) : Blk w' b cs t := (hb.block b hB).trans h
theorem Blk.new (w : World) (cs : Array Value) (t : TypeId) : Blk (w.alloc (.cells cs t)) w.heap.size cs t := heap_alloc_new w _
theorem Blk.alloc {w : World} {b : Nat} {cs : Array Value} {t : TypeId} (h : Blk w b cs t) (o : Obj) : Blk (w.alloc o) b cs t := (Below.heap_alloc w o b h.lt).trans h
theorem Blk.drew {w : World} {b : Nat} {cs : Array Value} {t : TypeId} (h : Blk w b cs t) : Blk w.drew b cs t := h
theorem Blk.drewN {w : World} {b : Nat} {cs : Array Value} {t : TypeId} (h : Blk w b cs t) (n : Nat) : Blk (w.drewN n) b cs t := h
theorem Blk.set {w : World} {b : Nat} {cs : Array Value} {t : TypeId} (h : Blk w b cs t) (i : Nat) (v : Value) : Blk (w.setCell ⟨b, i, none⟩ v) b (cs.setIfInBounds i v) t := by
  have hlt := h.lt
  have h' : w.heap[b] = .cells cs t (0, 0) := by have := h; unfold Blk at this; simpa [Array.getElem?_eq_getElem hlt] using this
  show (w.heap.modify b _)[b]? = _
  rw [Array.getElem?_eq_getElem (by simpa using hlt), Array.getElem_modify_self, h']
  rfl
theorem Blk.setOther {w : World} {b : Nat} {cs : Array Value} {t : TypeId} (h : Blk w b cs t) {a : Addr} (ha : b ≠ a.block) (v : Value) : Blk (w.setCell a v) b cs t :=
  (Below.heap_setCell w a v b ha).trans h

theorem extract_take (l : List UInt8) (k : Nat) : (⟨l.toArray⟩ : ByteArray).extract 0 k = ⟨(l.take k).toArray⟩ := by
  apply ByteArray.ext; simp [ByteArray.data_extract]
theorem extract_drop (l : List UInt8) (k : Nat) : (⟨l.toArray⟩ : ByteArray).extract k l.length = ⟨(l.drop k).toArray⟩ := by
  apply ByteArray.ext; simp [ByteArray.data_extract]
  exact List.take_of_length_le (by simp)

theorem ret_int {k : IntKind} {a b : Int} (h : a = b) : Ending.returned (.int k a) = Ending.returned (.int k b) := by rw [h]
theorem ret_bool {a b : Bool} (h : a = b) : Ending.returned (.bool a) = Ending.returned (.bool b) := by rw [h]
theorem ret_str {a b : ByteArray} (h : a = b) : Ending.returned (.string a) = Ending.returned (.string b) := by rw [h]

/-! Bytes as whole numbers. -/
theorem u8_beq (a b : UInt8) : (a == b) = ((a.toNat : Int) == (b.toNat : Int)) := by
  rw [Bool.eq_iff_iff]; simp only [beq_iff_eq]; constructor
  · rintro rfl; rfl
  · intro h; exact UInt8.toNat_inj.1 (by omega)
theorem u8_eq (a b : UInt8) : (a = b) = ((a.toNat : Int) = (b.toNat : Int)) := by
  apply propext; constructor
  · rintro rfl; rfl
  · intro h; exact UInt8.toNat_inj.1 (by omega)
theorem u8_le (a b : UInt8) : (a ≤ b) = ((a.toNat : Int) ≤ (b.toNat : Int)) := by
  apply propext; rw [UInt8.le_iff_toNat_le]; omega
theorem u8_lt (a b : UInt8) : (a < b) = ((a.toNat : Int) < (b.toNat : Int)) := by
  apply propext; rw [UInt8.lt_iff_toNat_lt]; omega
theorem u8_or (a b : UInt8) : bits .or .u8 (a.toNat : Int) (b.toNat : Int) = ((a ||| b).toNat : Int) := by
  rw [Go.u8_or_nat _ _ a.toNat_lt b.toNat_lt, UInt8.toNat_or]
theorem u8_bd (a : UInt8) : (0 : Int) ≤ (a.toNat : Int) ∧ (a.toNat : Int) < 256 := ⟨by omega, by have := a.toNat_lt; omega⟩

/-- Of what was there nothing has turned, but for some blocks. -/
structure Kept (S : Nat → Prop) (w w' : World) : Prop where
  os : w'.os = w.os
  tape : w'.tape = w.tape
  output : w'.output = w.output
  size : w.heap.size ≤ w'.heap.size
  block : ∀ k, k < w.heap.size → ¬ S k → w'.heap[k]? = w.heap[k]?

theorem Kept.refl (S : Nat → Prop) (w : World) : Kept S w w := ⟨rfl, rfl, rfl, Nat.le_refl _, fun _ _ _ => rfl⟩
theorem Kept.of_below {S : Nat → Prop} {w w' : World} (h : Below w.heap.size w w') : Kept S w w' := ⟨h.os, h.tape, h.output, h.size, fun k hk _ => h.block k hk⟩
theorem Kept.trans {S : Nat → Prop} {w w' w'' : World} (h : Kept S w w') (h2 : Kept S w' w'') : Kept S w w'' :=
  ⟨h2.os.trans h.os, h2.tape.trans h.tape, h2.output.trans h.output, Nat.le_trans h.size h2.size, fun k hk hs => (h2.block k (Nat.lt_of_lt_of_le hk h.size) hs).trans (h.block k hk hs)⟩
/-- Whatever the second part turns beside lies in new memory. -/
theorem Kept.trans' {S T : Nat → Prop} {w w' w'' : World} (h : Kept S w w') (h2 : Kept T w' w'') (hT : ∀ k, k < w.heap.size → T k → S k) : Kept S w w'' :=
  ⟨h2.os.trans h.os, h2.tape.trans h.tape, h2.output.trans h.output, Nat.le_trans h.size h2.size, fun k hk hs => (h2.block k (Nat.lt_of_lt_of_le hk h.size) fun ht => hs (hT k hk ht)).trans (h.block k hk hs)⟩
theorem Kept.mono {S T : Nat → Prop} {w w' : World} (h : Kept S w w') (hT : ∀ k, k < w.heap.size → S k → T k) : Kept T w w' :=
  ⟨h.os, h.tape, h.output, h.size, fun k hk hs => h.block k hk fun ht => hs (hT k hk ht)⟩
theorem Kept.alloc {S : Nat → Prop} {w w' : World} (h : Kept S w w') (o : Obj) : Kept S w (w'.alloc o) :=
  h.trans (Kept.of_below ((Below.refl _ _).alloc (Nat.le_refl _) _))
theorem Kept.drew {S : Nat → Prop} {w w' : World} (h : Kept S w w') : Kept S w w'.drew := ⟨h.os, h.tape, h.output, h.size, h.block⟩
theorem Kept.below {w w' : World} (h : Kept (fun _ => False) w w') : Below w.heap.size w w' := ⟨h.os, h.tape, h.output, h.size, fun k hk => h.block k hk id⟩
theorem Blk.kept {S : Nat → Prop} {w w' : World} {b : Nat} {cs : Array Value} {t : TypeId} (h : Blk w b cs t) (hk : Kept S w w') (hS : ¬ S b) : Blk w' b cs t := (hk.block b h.lt hS).trans h

theorem Kept.setCell {S : Nat → Prop} {w w' : World} (h : Kept S w w') {b : Nat} (hb : S b ∨ w.heap.size ≤ b) (i : Nat) (v : Value) : Kept S w (w'.setCell ⟨b, i, none⟩ v) :=
  ⟨h.os, h.tape, h.output, by simpa [World.setCell] using h.size, fun k hk hs => (Below.heap_setCell w' ⟨b, i, none⟩ v k (by
    rintro rfl
    rcases hb with hb | hb
    · exact hs hb
    · have hb' : w.heap.size ≤ k := hb
      omega)).trans (h.block k hk hs)⟩

/-! Bytes and texts. -/
abbrev Bts := List UInt8
theorem byte_at {s : Bts} {a : Nat} (h : a < s.length) : ∃ c, s.drop a = c :: s.drop (a + 1) ∧ ∀ h, (⟨s.toArray⟩ : ByteArray)[a]'h = c :=
  ⟨s[a], by rw [List.drop_eq_getElem_cons h], fun _ => rfl⟩
theorem str_nil (s : Bts) : ((⟨s.toArray⟩ : ByteArray) == ⟨#[]⟩) = s.isEmpty := by
  cases s with
  | nil => rfl
  | cons c r =>
    have : ((c :: r).toArray == (#[] : Array UInt8)) = false := by
      rw [beq_eq_false_iff_ne]
      intro e
      have := congrArg Array.size e
      simp at this
    exact this
theorem u8_ne {a b : UInt8} (h : ¬ a = b) : ¬ ((a.toNat : Int) = (b.toNat : Int)) := fun e => h (UInt8.toNat_inj.1 (by omega))
theorem extract_from (s : Bts) (k : Nat) : (⟨s.toArray⟩ : ByteArray).extract k s.length = ⟨(s.drop k).toArray⟩ := extract_drop s k
theorem u8_nat {c : UInt8} {n : Nat} (h : n < 256) : ((c.toNat : Int) = (n : Int)) ↔ c = UInt8.ofNat n := by
  constructor
  · intro e
    apply UInt8.toNat_inj.1
    rw [UInt8.toNat_ofNat_of_lt' h]
    omega
  · intro e
    rw [e, UInt8.toNat_ofNat_of_lt' h]
theorem u8_lit {c : UInt8} {n : Nat} (h : ¬ c = UInt8.ofNat n) (hn : n < 256) : ¬ ((c.toNat : Int) = (n : Int)) := fun e => h ((u8_nat hn).1 e)
theorem extr_take (l : List UInt8) (k : Nat) : (⟨l.toArray⟩ : ByteArray).extract 0 k = ⟨(l.take k).toArray⟩ := extract_take l k
theorem rowIs_below {w w' : World} {b : Nat} {t : TypeId} {n : Nat} {f : Nat → Value} (h : w.rowIs b t n f) (hb : Below w.heap.size w w') : w'.rowIs b t n f := h.of_block (hb.block b h.lt)
theorem own_slice {w : World} {B : Nat} {t : TypeId} {size n : Nat} {v : Value} {xs : List Value} (h : w.ownsRow B t size v (n + 1) xs) : ∃ g c, v = .slice (some ⟨g, 0, none⟩) (n + 1) c := by
  obtain ⟨h1, ⟨-, h2⟩ | ⟨g, cap, cur, e, -⟩⟩ := h
  · exact absurd h2 (by omega)
  · exact ⟨g, cap, e⟩
theorem str_ne {s t : Bts} (h : s ≠ t) : ((⟨s.toArray⟩ : ByteArray) == ⟨t.toArray⟩) = false := by
  show (s.toArray == t.toArray) = false
  rw [beq_eq_false_iff_ne]; intro e
  exact h (by simpa using e)
theorem below_drew2 (w : World) : Below w.heap.size w w.drew := ⟨rfl, rfl, rfl, Nat.le_refl _, fun _ _ => rfl⟩
theorem var?_same {P : Program} {g : Nat} {W W' : World} {n : String} {cs : Array Value} (h : W'.heap[g]? = W.heap[g]?) (hg : P.globalNamed n = some g) (hv : W.var? P n = some cs) : W'.var? P n = some cs := by
  unfold World.var? at hv ⊢
  simp only [hg, Option.bind_some] at hv ⊢
  rw [h]
  exact hv
theorem below_drew (q : Nat) (w : World) : Below q w w.drew := ⟨rfl, rfl, rfl, Nat.le_refl _, fun _ _ => rfl⟩

/-! Rows of the call's own. -/
theorem own_kept {S : Nat → Prop} {w w' : World} {B : Nat} {t : TypeId} {size n : Nat} {v : Value} {xs : List Value} (h : w.ownsRow B t size v n xs) (hk : Kept S w w') (hS : ∀ k, v.ownBlock = some k → ¬ S k) : w'.ownsRow B t size v n xs := by
  obtain ⟨h1, h2 | ⟨g, cap, cur, e, hg, hb, r⟩⟩ := h
  · exact ⟨h1, .inl h2⟩
  · exact ⟨h1, .inr ⟨g, cap, cur, e, hg, (hk.block g (lt_of_block hb) (hS g (by rw [e]; rfl))).trans hb, r⟩⟩
theorem kept_grown {w w2 w1 : World} {o : Option Nat} (h : Kept (fun _ => False) w w2) (hg : w2.grownBy w1 o) : Kept (fun k => o = some k) w w1 :=
  ⟨hg.os.trans h.os, hg.tape.trans h.tape, hg.output.trans h.output, Nat.le_trans h.size hg.size, fun k hk hs => (hg.block k (Nat.lt_of_lt_of_le hk h.size) fun e => hs e.symm).trans (h.block k hk id)⟩
theorem own_mono {w : World} {B C : Nat} {t : TypeId} {size n : Nat} {v : Value} {xs : List Value} (h : w.ownsRow B t size v n xs) (hBC : C ≤ B) : w.ownsRow C t size v n xs := by
  obtain ⟨h1, h2 | ⟨g, cap, cur, e, hg, r⟩⟩ := h
  · exact ⟨h1, .inl h2⟩
  · exact ⟨h1, .inr ⟨g, cap, cur, e, Nat.le_trans hBC hg, r⟩⟩
theorem below_of_kept {S : Nat → Prop} {B : Nat} {w w' : World} (h : Kept S w w') (hS : ∀ k, S k → B ≤ k) (hB : B ≤ w.heap.size) : Below B w w' :=
  ⟨h.os, h.tape, h.output, h.size, fun k hk => h.block k (by omega) fun hs => by have := hS k hs; omega⟩
theorem cells_new (w : World) (cs : Array Value) (t : TypeId) : ∀ j u, cs.toList[j]? = some u → (w.alloc (.cells cs t)).cell? ((⟨w.heap.size, 0, none⟩ : Addr).add j) = some u := by
  intro j u hj
  have hj' : cs[j]? = some u := by simpa using hj
  rw [show ((⟨w.heap.size, 0, none⟩ : Addr).add j) = ⟨w.heap.size, j, none⟩ by simp only [Addr.add, Nat.zero_add]; split <;> simp_all]
  exact (Blk.new w cs t).cell j hj'
theorem below_drewN (w : World) (k : Nat) : Below w.heap.size w (w.drewN k) := ⟨rfl, rfl, rfl, Nat.le_refl _, fun _ _ => rfl⟩

/-! Bytes as texts. -/
def nums (xs : List UInt8) : List Int := xs.map fun c => (c.toNat : Int)
theorem nums_length (xs : List UInt8) : (nums xs).length = xs.length := by simp [nums]
theorem nums_getD (xs : List UInt8) (i : Nat) (hi : i < xs.length) : (nums xs).getD i 0 = ((xs.getD i 0).toNat : Int) := by
  simp [nums, List.getD_eq_getElem?_getD, List.getElem?_eq_getElem hi]
theorem strOf_nums (xs : List UInt8) : strOfNums (nums xs) = ⟨xs.toArray⟩ := by
  have h : (nums xs).map (fun n => UInt8.ofNat n.toNat) = xs := by
    unfold nums
    rw [List.map_map]
    conv => rhs; rw [← List.map_id xs]
    apply List.map_congr_left
    intro c _
    simp
  unfold strOfNums
  rw [h]

theorem run_str {w : World} {p : Option Addr} {xs : List UInt8} (h : Bs w p xs) (c : Nat) :
    (convert 28 9 (.slice p xs.length c)).run Tryz.prog w = .ok (.string ⟨xs.toArray⟩) w := by
  rw [← strOf_nums]
  rcases Nat.eq_zero_or_pos xs.length with hn | hn
  · obtain rfl : xs = [] := List.eq_nil_of_length_eq_zero hn
    rw [show (([] : List UInt8).length) = 0 from rfl, run_convert_bytes_string w 28 9 5 _ 0 c Tryz.underlying28 Tryz.underlying5 Tryz.underlying9]
    cases p <;> simp [Conv.bytesToString, loadCells]
    all_goals rfl
  · obtain ⟨b, o, rfl, hc⟩ := h hn
    exact run_convert_bytes_arg (P := Tryz.prog) w 28 5 Tryz.underlying28 Tryz.underlying5 b o xs.length c (nums xs) (nums_length xs) (fun i hi => by rw [hc i hi, nums_getD xs i hi]) 9 Tryz.underlying9

theorem bs_one (w : World) (c : UInt8) (T : TypeId) : Bs (w.alloc (.cells #[.int .u8 c.toNat] T)) (some ⟨w.heap.size, 0, none⟩) [c] := by
  intro _
  refine ⟨w.heap.size, 0, rfl, fun i hi => ?_⟩
  obtain rfl : i = 0 := by simpa using hi
  rw [Lib.cell_of_heap (heap_alloc_new w _)]
  rfl
def u8V (c : UInt8) : Value := .int .u8 c.toNat
theorem info_str : (Tryz.prog.info? 9).map (fun i => (i.zero, i.size, i.bytes)) = some (some (.string ⟨#[]⟩), 1, 16) := by kernel_rfl
theorem bs_of_own {w : World} {B : Nat} {bv : Value} {cur : Bts} (h : w.ownsRow B 5 1 bv cur.length (cur.map u8V)) : ∃ p c, bv = .slice p cur.length c ∧ Bs w p cur := by
  rcases h.2 with ⟨h1, h2⟩ | ⟨g, cap, cs, rfl, -⟩
  · refine ⟨none, 0, by rw [h2]; exact h1, ?_⟩
    intro h0; omega
  · refine ⟨_, _, rfl, fun _ => ⟨g, 0, rfl, fun i hi => ?_⟩⟩
    have := h.cellAt i (by omega)
    rw [Nat.zero_add, this]
    simp [List.getD_eq_getElem?_getD, hi, u8V]
theorem info_byte : (Tryz.prog.info? 5).map (fun i => (i.zero, i.size, i.bytes)) = some (some (.int .u8 0), 1, 1) := by kernel_rfl

end Go.Proofs.YtfgmmaahbngonaaGreatDoor

/-
  What the library's variables hold, and that it stays. No condition.
-/
namespace Go.Proofs.YtfgmmaahbngonaaGreatDoor
open Go.RowKit Go.Shelf

/-! What the library's variables hold. -/
structure Glo (w : World) : Prop where
  syn : ∃ tp p, w.var? Tryz.prog "strconv.ErrSyntax" = some #[.iface tp p]
  rng : ∃ tp p, w.var? Tryz.prog "strconv.ErrRange" = some #[.iface tp p]
  mx : ∃ m, w.cell? ⟨4, 0, none⟩ = some (.int .i64 m)
  tab : Lib.TabIs Tryz.prog w "internal/strconv.uint64pow10" .u64 Lib.pow10Tab
  big : 8 ≤ w.heap.size

theorem gSyn : Tryz.prog.globalNamed "strconv.ErrSyntax" = some 5 := by kernel_rfl
theorem gPow : Tryz.prog.globalNamed "internal/strconv.uint64pow10" = some 0 := by kernel_rfl
theorem gRng : Tryz.prog.globalNamed "strconv.ErrRange" = some 6 := by kernel_rfl

theorem Glo.kept {S : Nat → Prop} {w w' : World} (h : Glo w) (hk : Kept S w w') (hS : ∀ k, S k → 8 ≤ k) : Glo w' := by
  obtain ⟨⟨t1, p1, h1⟩, ⟨t2, p2, h2⟩, ⟨m, h3⟩, h4, h8⟩ := h
  have hb : ∀ g, g < 8 → w'.heap[g]? = w.heap[g]? := fun g hg => hk.block g (by omega) (fun hs => absurd (hS g hs) (by omega))
  refine ⟨⟨t1, p1, var?_same (hb _ (by decide)) gSyn h1⟩, ⟨t2, p2, var?_same (hb _ (by decide)) gRng h2⟩, ⟨m, ?_⟩, ?_, Nat.le_trans h8 hk.size⟩
  · have := hb 4 (by decide)
    unfold World.cell? at h3 ⊢
    simp only [this]
    exact h3
  · exact var?_same (hb _ (by decide)) gPow h4
theorem Glo.below {w w' : World} (h : Glo w) (hb : Below w.heap.size w w') : Glo w' := h.kept (Kept.of_below (S := fun _ => False) hb) fun _ h => h.elim
theorem Glo.from {w0 w' : World} (h : Glo w0) (hb : Below w0.heap.size w0 w') : Glo w' := h.below hb

end Go.Proofs.YtfgmmaahbngonaaGreatDoor

/-
  The walk of text.Number; the plain law of digits' values. Conditions: the strings are no longer than memory allows; the library's variables hold errors.
-/
namespace Go.Proofs.YtfgmmaahbngonaaGreatDoor.Ord
open Go
abbrev Bytes := List UInt8
def digit (c : UInt8) : Bool := 48 ≤ c && c ≤ 57
def value (s : Bytes) : Nat := s.foldl (fun n c => n * 10 + (c.toNat - 48)) 0
/-- text.Number. -/
def number (s : Bytes) (most : Int) : Option Int :=
  if !s.isEmpty && s.all digit && decide ((value s : Int) ≤ most) then some (value s) else none
/-! ParseInt of digits alone. -/
def valueFrom (a : Nat) (s : Bytes) : Nat := s.foldl (fun n c => n * 10 + (c.toNat - 48)) a

theorem valueFrom_ge (s : Bytes) : ∀ a, a ≤ valueFrom a s := by
  induction s with
  | nil => intro a; exact Nat.le_refl _
  | cons c r ih => intro a; have := ih (a * 10 + (c.toNat - 48)); simp only [valueFrom, List.foldl_cons] at this ⊢; omega

theorem digit_nat {c : UInt8} (h : digit c = true) : 48 ≤ c.toNat ∧ c.toNat ≤ 57 := by
  simpa [digit, UInt8.le_iff_toNat_le] using h

theorem parseUintM_digits (s : Bytes) : ∀ a, s.all digit = true → a ≤ 18446744073709551615 →
    Lib.parseUintM 18446744073709551615 a s = if valueFrom a s ≤ 18446744073709551615 then .ok (valueFrom a s) else .range := by
  induction s with
  | nil => intro a _ ha; simp [Lib.parseUintM, valueFrom, ha]
  | cons c r ih =>
    intro a hs ha
    simp only [List.all_cons, Bool.and_eq_true] at hs
    have hd := digit_nat hs.1
    have hv := valueFrom_ge r (a * 10 + (c.toNat - 48))
    have e : valueFrom a (c :: r) = valueFrom (a * 10 + (c.toNat - 48)) r := rfl
    simp only [Lib.parseUintM, if_pos hd]
    rw [e]
    by_cases h1 : 1844674407370955162 ≤ a
    · rw [if_pos h1, if_neg (by omega)]
    · rw [if_neg h1]
      by_cases h2 : 18446744073709551615 < a * 10 + (c.toNat - 48)
      · rw [if_pos h2, if_neg (by omega)]
      · rw [if_neg h2]; exact ih _ hs.2 (by omega)

theorem parseIntB_digits (s : Bytes) (hs : s.all digit = true) (h0 : s ≠ []) :
    Lib.parseIntB 64 s = if value s < 9223372036854775808 then .ok (value s : Int) else .range := by
  match s, hs, h0 with
  | c :: r, hs, _ =>
    have hd := digit_nat (by simp only [List.all_cons, Bool.and_eq_true] at hs; exact hs.1)
    have hu : Lib.parseUintB 64 (c :: r) = if value (c :: r) ≤ 18446744073709551615 then .ok (value (c :: r)) else .range := by
      unfold Lib.parseUintB
      rw [if_neg (by simp)]
      exact parseUintM_digits (c :: r) 0 hs (by omega)
    have hu' : Lib.parseUintB 64 (if c.toNat = 43 ∨ c.toNat = 45 then r else c :: r) = if value (c :: r) ≤ 18446744073709551615 then .ok (value (c :: r)) else .range := by
      rw [if_neg (by omega)]; exact hu
    simp only [Lib.parseIntB, hu']
    have h45 : ¬ c.toNat = 45 := by omega
    by_cases h1 : value (c :: r) ≤ 18446744073709551615
    · rw [if_pos h1]
      by_cases h2 : value (c :: r) < 9223372036854775808
      · rw [if_pos h2]; simp [h45]; omega
      · rw [if_neg h2]; simp [h45]; omega
    · rw [if_neg h1, if_neg (by omega)]

theorem number_none_of (s : Bytes) (most : Int) (h : s = [] ∨ s.all digit = false ∨ most < value s) : number s most = none := by
  unfold number
  rcases h with h | h | h
  · simp [h]
  · simp [h]
  · rw [if_neg]; simp; intro _ _; omega
theorem number_some_of (s : Bytes) (most : Int) (h0 : s ≠ []) (h : s.all digit = true) (hv : (value s : Int) ≤ most) : number s most = some (value s : Int) := by
  unfold number
  rw [if_pos]
  simp [h0, h, hv]

end Go.Proofs.YtfgmmaahbngonaaGreatDoor.Ord

namespace Go.Proofs.YtfgmmaahbngonaaGreatDoor
open Go.RowKit Go.Shelf

theorem digit_int (c : UInt8) : Ord.digit c = (decide ((48 : Int) ≤ c.toNat) && decide ((c.toNat : Int) ≤ 57)) := by
  simp only [Ord.digit, u8_le]; rfl
theorem digit_no {c : UInt8} (h : (c.toNat : Int) < 48 ∨ 57 < (c.toNat : Int)) : Ord.digit c = false := by
  rw [digit_int]; simp; omega
theorem digit_yes {c : UInt8} (h : (48 : Int) ≤ c.toNat) (h' : (c.toNat : Int) ≤ 57) : Ord.digit c = true := by
  rw [digit_int]; simp; omega

/-- text.Number's answer. -/
def numVal (l : Ord.Bytes) (most : Int) : Value := match Ord.number l most with
  | none => .tuple #[.int .i64 0, .bool false]
  | some v => .tuple #[.int .i64 v, .bool true]

theorem parseInt_bad (l : Ord.Bytes) (hl : l.length ≤ 140737488351232) (h : l = [] ∨ (l.all Ord.digit = true ∧ 9223372036854775808 ≤ Ord.value l)) (w : World) (hg : Glo w) :
    Calls Tryz.prog 155 #[.string ⟨l.toArray⟩, .int .i64 10, .int .i64 64] w fun e w' => (∃ n t a, e = .returned (.tuple #[.int .i64 n, .iface t (.pointer (some a))])) ∧ Below w.heap.size w w' := by
  obtain ⟨⟨t1, p1, h1⟩, ⟨t2, p2, h2⟩, -⟩ := hg
  by_cases h0 : l = []
  · subst h0
    exact (Any.strconv_ParseInt_10_at64_syntax_var Tryz.laysC174 ⟨#[]⟩ (by decide) rfl t1 p1 w h1).mono fun e w' ⟨N, he, _, _, hb⟩ => ⟨⟨_, _, _, he⟩, hb⟩
  · rcases h with h | ⟨ha, hv⟩
    · exact absurd h h0
    · exact (Any.strconv_ParseInt_10_at64_range_var Tryz.laysC174 ⟨l.toArray⟩ (by simp [ByteArray.size]; omega) (by rw [Ord.parseIntB_digits l ha h0, if_neg (by omega)]) t2 p2 w h2).mono fun e w' ⟨N, he, _, _, hb⟩ => ⟨⟨_, _, _, he⟩, hb⟩

theorem parseInt_good (l : Ord.Bytes) (hl : l.length ≤ 140737488351232) (h0 : l ≠ []) (ha : l.all Ord.digit = true) (hv : Ord.value l < 9223372036854775808) (w : World) :
    Calls Tryz.prog 155 #[.string ⟨l.toArray⟩, .int .i64 10, .int .i64 64] w fun e w' => e = .returned (.tuple #[.int .i64 (Ord.value l), .nilIface]) ∧ Below w.heap.size w w' := by
  refine (Any.strconv_ParseInt_10_at64_ok Tryz.laysC174 ⟨l.toArray⟩ (by simp [ByteArray.size]; omega) (Ord.value l) (by rw [Ord.parseIntB_digits l ha h0, if_pos hv]) w).mono fun e w' ⟨he, hw⟩ => ⟨he, ?_⟩
  rcases hw with rfl | ⟨t, rfl⟩
  · exact Below.refl _ _
  · exact Lib.bytesWorld_below _ _ _

/-- Are so many of the first bytes digits? -/
theorem all_take (l : Ord.Bytes) (k : Nat) (hk : k < l.length) : (l.take (k + 1)).all Ord.digit = ((l.take k).all Ord.digit && Ord.digit (l.getD k 0)) := by
  rw [List.take_succ_eq_append_getElem hk, List.all_append]
  simp [List.getD_eq_getElem?_getD, List.getElem?_eq_getElem hk]

theorem all_false_at (l : Ord.Bytes) (k : Nat) (hk : k < l.length) (h : Ord.digit (l.getD k 0) = false) : l.all Ord.digit = false := by
  rw [List.all_eq_false]
  exact ⟨l.getD k 0, by rw [List.getD_eq_getElem?_getD, List.getElem?_eq_getElem hk]; exact List.getElem_mem hk, by rw [h]; decide⟩

theorem numVal_none {l : Ord.Bytes} {most : Int} (h : l = [] ∨ l.all Ord.digit = false ∨ most < Ord.value l) : numVal l most = .tuple #[.int .i64 0, .bool false] := by
  unfold numVal; rw [Ord.number_none_of l most h]
theorem numVal_some {l : Ord.Bytes} {most : Int} (h0 : l ≠ []) (h : l.all Ord.digit = true) (hv : (Ord.value l : Int) ≤ most) : numVal l most = .tuple #[.int .i64 (Ord.value l), .bool true] := by
  unfold numVal; rw [Ord.number_some_of l most h0 h hv]

set_option maxRecDepth 100000 in
theorem based_any (l : Ord.Bytes) (most : Int) (hl : l.length ≤ 140737488351232) (hm0 : 0 ≤ most) (hm : most ≤ 2147483647) (w : World) (hg : Glo w) :
    Calls Tryz.prog 290 #[.string ⟨l.toArray⟩, .int .i64 most, .int .i64 10] w fun e w' => e = .returned (numVal l most) ∧ Below w.heap.size w w' := by
  have hconv := fun w => Lib.run_convert_string_bytes (P := Tryz.prog) w 9 28 5 ⟨l.toArray⟩ Tryz.underlying9 Tryz.underlying28 Tryz.underlying5
  have hsz : (⟨l.toArray⟩ : ByteArray).size = l.length := by simp [ByteArray.size]
  simp only [hsz] at hconv
  have hbel := Lib.bytesWorld_below w 5 ⟨l.toArray⟩
  have hcell : ∀ j, j < l.length → (Lib.bytesWorld w 5 ⟨l.toArray⟩).cell? ⟨w.heap.size, j, none⟩ = some (.int .u8 (l.getD j 0).toNat) := fun j hj => Lib.bytesWorld_cell w 5 ⟨l.toArray⟩ j (by rw [hsz]; exact hj)
  have hsize := Lib.bytesWorld_size w 5 ⟨l.toArray⟩
  go_enter Tryz.func290, Tryz.ntmps290
  go_wp2_with fail
  clear hconv
  generalize Lib.bytesWorld w 5 ⟨l.toArray⟩ = w1 at *
  have hg1 := hg.below hbel
  go_loop [15] (fun i => ∃ k : Nat, k ≤ l.length ∧ (l.take k).all Ord.digit = true ∧ i = .int .i64 k) (fun i => l.length - (intOf i).toNat)
  case atStart => exact ⟨0, Nat.zero_le _, rfl, rfl⟩
  case round =>
    obtain ⟨k, hk, hall, rfl⟩ := hrel
    have HA := Lib.hid hall; clear hall
    by_cases hlt : k < l.length
    · have hc := hcell k hlt
      have hbd := u8_bd (l.getD k 0)
      have eg : l[k] = l.getD k 0 := by simp [List.getD_eq_getElem?_getD, List.getElem?_eq_getElem hlt]
      have EG := Lib.hid eg; clear eg
      go_wp2_with fail
      · have h1 : (l[k].toNat : Int) < 48 := by assumption
        rw [EG.out] at h1
        go_ret2
        refine ⟨?_, hbel⟩
        rw [numVal_none (.inr (.inl (all_false_at l k hlt (digit_no (by omega)))))]; rfl
      · have h1 : 10 ≤ ((l[k].toNat : Int) - 48) % 256 := by assumption
        rw [EG.out] at h1
        go_ret2
        refine ⟨?_, hbel⟩
        rw [numVal_none (.inr (.inl (all_false_at l k hlt (digit_no (by omega)))))]; rfl
      · have h1 : ((l[k].toNat : Int) - 48) % 256 < 10 := by assumption
        have h2 : ¬ (l[k].toNat : Int) < 48 := by assumption
        rw [EG.out] at h1 h2
        go_round
        case rel => exact ⟨k + 1, by omega, by rw [all_take l k hlt, HA.out, digit_yes (by omega) (by omega)]; rfl, by go_num⟩
        case measure => simp [intOf]; omega
    · obtain rfl : k = l.length := by omega
      have hall : l.all Ord.digit = true := by simpa using HA.out
      have HA2 := Lib.hid hall; clear hall HA
      by_cases h0 : l = [] ∨ 9223372036854775808 ≤ Ord.value l
      · have HN := Lib.hid (show numVal l most = .tuple #[.int .i64 0, .bool false] from numVal_none (by rcases h0 with h | h; exact .inl h; exact .inr (.inr (by omega))))
        have hbad := fun w => parseInt_bad l hl (h0.imp id fun h => ⟨HA2.out, h⟩) w
        clear h0
        go_wp2_with (go_at_call 155; refine (hbad _ hg1).mono ?_; rintro e w2 ⟨⟨n, t, a, rfl⟩, hb2⟩)
        go_ret2
        exact ⟨by rw [HN.out]; rfl, hbel.trans (hb2.mono (by omega))⟩
      · have hn0 : l ≠ [] := fun h => h0 (.inl h)
        have hv : Ord.value l < 9223372036854775808 := by rcases Nat.lt_or_ge (Ord.value l) 9223372036854775808 with h | h; exact h; exact absurd (.inr h) h0
        have hgood := fun w => parseInt_good l hl hn0 HA2.out hv w
        clear h0
        by_cases hv2 : (Ord.value l : Int) ≤ most
        · have HN := Lib.hid (numVal_some (most := most) hn0 HA2.out hv2)
          clear hn0
          go_wp2_with (go_at_call 155; refine (hgood _).mono ?_; rintro e w2 ⟨rfl, hb2⟩)
          go_ret2
          exact ⟨by rw [HN.out]; rfl, hbel.trans (hb2.mono (by omega))⟩
        · have HN := Lib.hid (show numVal l most = .tuple #[.int .i64 0, .bool false] from numVal_none (.inr (.inr (by omega))))
          clear hn0
          go_wp2_with (go_at_call 155; refine (hgood _).mono ?_; rintro e w2 ⟨rfl, hb2⟩)
          go_ret2
          exact ⟨by rw [HN.out]; rfl, hbel.trans (hb2.mono (by omega))⟩

set_option maxRecDepth 100000 in
theorem number_any (l : Ord.Bytes) (most : Int) (hl : l.length ≤ 140737488351232) (hm0 : 0 ≤ most) (hm : most ≤ 2147483647) (w : World) (hg : Glo w) :
    Calls Tryz.prog 285 #[.string ⟨l.toArray⟩, .int .i64 most] w fun e w' => e = .returned (numVal l most) ∧ Below w.heap.size w w' := by
  have hb := fun w' hg' => based_any l most hl hm0 hm w' hg'
  have hx : ∃ n b, numVal l most = .tuple #[.int .i64 n, .bool b] := by
    unfold numVal; split <;> exact ⟨_, _, rfl⟩
  obtain ⟨n, b, hx⟩ := hx
  rw [hx] at hb ⊢
  clear hx
  go_enter Tryz.func285, Tryz.ntmps285
  go_wp2_with (go_at_call 290; refine (hb _ hg).mono ?_; rintro e w1 ⟨rfl, hb1⟩)
  go_ret2
  exact ⟨rfl, hb1⟩

end Go.Proofs.YtfgmmaahbngonaaGreatDoor

/-
  What package logic computes, as plain functions on lists of bytes. No program in sight.
  No condition: definitions alone.
-/
namespace Go.Proofs.YtfgmmaahbngonaaGreatDoor.Lg
open Go

abbrev Bts := List UInt8
/-- What went wrong: about what, and which error. -/
abbrev Bad := Bts × Nat

def digit (c : UInt8) : Bool := 48 ≤ c && c ≤ 57
def value (s : Bts) : Nat := s.foldl (fun n c => n * 10 + (c.toNat - 48)) 0

/-! Numbers. -/
def minus (s : Bts) : Bool := s.head? == some 45
def body (s : Bts) : Bts := if minus s then s.tail else s
def sval (s : Bts) : Int := if minus s then -(value (body s) : Int) else (value (body s) : Int)
def num (s : Bts) : Option Int :=
  if !(body s).isEmpty && (body s).all digit && decide (-9223372036854775808 ≤ sval s) && decide (sval s ≤ 9223372036854775807) then some (sval s) else none
/-- Two of them. -/
def nums (a b : Bts) : Except Bad (Int × Int) := match num a with
  | none => .error (a, 25)
  | some n => match num b with
    | none => .error (b, 25)
    | some m => .ok (n, m)
def sgn (a b : Int) : Int := if a < b then -1 else if b < a then 1 else 0
def null (s : Bts) : Bool := s.isEmpty || num s == some 0

/-- Ways to compare: eq, ne, gt, ge, lt, le. -/
def cmpK : Nat → Int → Bool
  | 0, n => n == 0
  | 1, n => n != 0
  | 2, n => decide (0 < n)
  | 3, n => decide (0 ≤ n)
  | 4, n => decide (n < 0)
  | _, n => decide (n ≤ 0)

/-! test. -/
/-- The names of test's ways to compare: -eq, -ne, -gt, -ge, -lt, -le. -/
def tnames : List Bts := [[45, 101, 113], [45, 110, 101], [45, 103, 116], [45, 103, 101], [45, 108, 116], [45, 108, 101]]
/-- Where a name stands in a list. -/
def place : List Bts → Bts → Option Nat
  | [], _ => none
  | x :: r, s => if x = s then some 0 else (place r s).map (· + 1)
/-- binary: none: it is none. -/
def binary (a op b : Bts) : Option (Except Bad Bool) :=
  if op = [61] then some (.ok (a == b))
  else if op = [33, 61] then some (.ok (a != b))
  else match place tnames op with
    | none => none
    | some k => some (match nums a b with
      | .error x => .error x
      | .ok (n, m) => .ok (cmpK k (sgn n m)))
/-- unary: none: it is not told here. -/
def unary (op s : Bts) : Option (Except Bad Bool) :=
  if op = [45, 122] then some (.ok s.isEmpty) else if op = [45, 110] then some (.ok (!s.isEmpty)) else none
def flip : Except Bad Bool → Except Bad Bool
  | .error x => .error x
  | .ok b => .ok (!b)
/-- holds: none: it is not told here. -/
def holds : Nat → List Bts → Option (Except Bad Bool)
  | 0, _ => none
  | f + 1, l =>
    let rest := match l with
      | [] => some (.ok false)
      | [a] => some (.ok (!a.isEmpty))
      | a :: b :: r =>
        if 4 < l.length then some (.error ([], 19))
        else if a = [33] then (holds f (b :: r)).map flip
        else if r = [] then unary a b
        else if a = [40] ∧ (b :: r).getLast? = some [41] then holds f (b :: r).dropLast
        else some (.error ([], 19))
    match l with
    | [a, op, b] => (match binary a op b with
      | some x => some x
      | none => rest)
    | _ => rest
/-- test's operands. -/
def testArgs (l : List Bts) : Option (List Bts) := match l with
  | [] => none
  | a :: r => if a = [91] then (if r.getLast? = some [93] then some r.dropLast else none) else some r
/-- What test ends with: the status, or what went wrong. -/
def test (l : List Bts) : Option (Except Bad Int) := match testArgs l with
  | none => some (.error ([], 19))
  | some r => (holds 8 r).map fun
    | .error x => .error x
    | .ok b => .ok (if b then 0 else 1)

/-! expr. -/
inductive Nd where
  | val (s : Bts)
  | bin (op : Bts) (a b : Nd)
  deriving Inhabited

def rank (s : Bts) : Nat :=
  if s = [124] then 1 else if s = [38] then 2
  else if s = [61] ∨ s = [62] ∨ s = [62, 61] ∨ s = [60] ∨ s = [60, 61] ∨ s = [33, 61] then 3
  else if s = [43] ∨ s = [45] then 4 else if s = [42] ∨ s = [47] ∨ s = [37] then 5 else if s = [58] then 6 else 0

mutual
/-- read: none: not enough steps; some none: it is no expression. -/
def read : Nat → Nat → List Bts → Option (Option (Nd × List Bts))
  | 0, _, _ => none
  | f + 1, k, l => if 6 < k then operand f l else match read f (k + 1) l with
    | none => none
    | some none => some none
    | some (some (a, l1)) => more f k a l1
/-- What stands behind a first operand of a rank. -/
def more : Nat → Nat → Nd → List Bts → Option (Option (Nd × List Bts))
  | 0, _, _, _ => none
  | f + 1, k, a, l => match l with
    | [] => some (some (a, []))
    | op :: r => if rank op = k then (match read f (k + 1) r with
        | none => none
        | some none => some none
        | some (some (b, l2)) => more f k (.bin op a b) l2)
      else some (some (a, op :: r))
def operand : Nat → List Bts → Option (Option (Nd × List Bts))
  | 0, _ => none
  | f + 1, l => match l with
    | [] => some none
    | s :: r => if s = [41] then some none else if s ≠ [40] then some (some (.val s, r)) else (match read f 1 r with
      | none => none
      | some none => some none
      | some (some (n, l1)) => match l1 with
        | [] => some none
        | t :: r1 => if t = [41] then some (some (n, r1)) else some none)
end

/-- The names of expr's ways to compare: =, !=, >, >=, <, <=. -/
def xnames : List Bts := [[61], [33, 61], [62], [62, 61], [60], [60, 61]]
/-- How two texts stand, by bytes. -/
def cmpB (a b : Bts) : Int := Lib.compareBytes a b
def small (n : Int) : Bool := decide (-4611686018427387904 ≤ n) && decide (n ≤ 4611686018427387903)
def tiny (n : Int) : Bool := decide (-2147483648 ≤ n) && decide (n ≤ 2147483648)
/-- A sign between numbers: none: it is not told here. -/
def whole (do_ : Int → Int → Option (Option Int)) (a b : Bts) : Option (Except Bad Bts) := match nums a b with
  | .error x => some (.error x)
  | .ok (n, m) => (do_ n m).map fun
    | none => .error ([], 25)
    | some v => .ok (Lib.itoa v)
def addN (n m : Int) : Option (Option Int) := if small n && small m then some (some (n + m)) else none
def subN (n m : Int) : Option (Option Int) := if small n && small m then some (some (n - m)) else none
def mulN (n m : Int) : Option (Option Int) := if tiny n && tiny m then some (some (n * m)) else none
def divN (n m : Int) : Option (Option Int) := if m = 0 then some none else if small n && small m then some (some (n.tdiv m)) else none
def modN (n m : Int) : Option (Option Int) := if m = 0 then some none else if small n && small m then some (some (n.tmod m)) else none
/-- What a sign does: none: it is not told here ('found': what : does). -/
def op (found : Bts → Bts → Option (Except Bad Bts)) (o a b : Bts) : Option (Except Bad Bts) :=
  if o = [124] then some (.ok (if !null a then a else if !b.isEmpty then b else [48]))
  else if o = [38] then some (.ok (if null a || null b then [48] else a))
  else if o = [58] then found a b
  else if o = [43] then whole addN a b
  else if o = [45] then whole subN a b
  else if o = [42] then whole mulN a b
  else if o = [47] then whole divN a b
  else if o = [37] then whole modN a b
  else match place xnames o with
    | none => none
    | some k => some (.ok (if cmpK k (match nums a b with
      | .error _ => cmpB a b
      | .ok (n, m) => sgn n m) then [49] else [48]))
def reckon (found : Bts → Bts → Option (Except Bad Bts)) : Nd → Option (Except Bad Bts)
  | .val s => some (.ok s)
  | .bin o a b => match reckon found a with
    | none => none
    | some (.error x) => some (.error x)
    | some (.ok u) => match reckon found b with
      | none => none
      | some (.error x) => some (.error x)
      | some (.ok v) => if u.length ≤ 100000000 ∧ v.length ≤ 100000000 then op found o u v else none
/-- What expr comes to: the text that is told, or what went wrong. -/
def expr (found : Bts → Bts → Option (Except Bad Bts)) (f : Nat) (l : List Bts) : Option (Except Bad Bts) := match read f 1 l with
  | none => none
  | some none => some (.error ([], 19))
  | some (some (n, r)) => if r = [] then reckon found n else some (.error ([], 19))

end Go.Proofs.YtfgmmaahbngonaaGreatDoor.Lg
