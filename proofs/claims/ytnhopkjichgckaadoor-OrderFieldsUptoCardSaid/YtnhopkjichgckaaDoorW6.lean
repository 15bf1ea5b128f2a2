/-
  The walks of bytes.Compare, bytes.IndexByte and field. Conditions: the slices of bytes lie in memory as they are told.
-/
import Derived.Test.YtnhopkjichgckaaDoorW1
namespace Go.Proofs.YtnhopkjichgckaaDoor
open Go.RowKit Go.Shelf

/-- Bytes as the library's numbers. -/
def nums (xs : Ord.Bytes) : List Int := xs.map fun c => (c.toNat : Int)
theorem nums_length (xs : Ord.Bytes) : (nums xs).length = xs.length := by simp [nums]
theorem nums_getD (xs : Ord.Bytes) (i : Nat) (hi : i < xs.length) : (nums xs).getD i 0 = ((xs.getD i 0).toNat : Int) := by
  simp [nums, List.getD_eq_getElem?_getD, List.getElem?_eq_getElem hi]
theorem bytesOf_nums (xs : Ord.Bytes) : Lib.bytesOf (nums xs) = xs := by
  unfold Lib.bytesOf nums
  rw [List.map_map]
  conv => rhs; rw [← List.map_id xs]
  apply List.map_congr_left
  intro c _
  simp

theorem add_plain' (b o i : Nat) : (⟨b, o, none⟩ : Addr).add i = ⟨b, o + i, none⟩ := by
  unfold Addr.add; split
  · rename_i h; subst h; rfl
  · rfl

theorem Bs.cells {w : World} {a : Addr} {xs : Ord.Bytes} (h : Bs w (some a) xs) : ∀ i, i < xs.length → w.cell? (a.add i) = some (.int .u8 ((nums xs).getD i 0)) := by
  intro i hi
  obtain ⟨b, o, hp, hc⟩ := h (by omega)
  simp at hp
  subst hp
  rw [add_plain', nums_getD xs i hi]
  exact hc i hi
theorem Bs.none {w : World} {xs : Ord.Bytes} (h : Bs w none xs) : xs = [] := by
  cases xs with
  | nil => rfl
  | cons c r => obtain ⟨b, o, hp, _⟩ := h (by simp); cases hp

theorem run_bytesOf {w : World} {p : Option Addr} {xs : Ord.Bytes} {c : Nat} (h : Bs w p xs) : (Extern.Bytes.bytesOf (.slice p xs.length c)).run Tryd.prog w = .ok ⟨xs.toArray⟩ w := by
  cases p with
  | none => obtain rfl := h.none; rfl
  | some a =>
    have hl := Lib.run_loadBytesX (P := Tryd.prog) w (nums xs) a .empty (fun j x hj => by
      have hjl : j < (nums xs).length := (List.getElem?_eq_some_iff.1 hj).1
      rw [nums_length] at hjl
      rw [h.cells j hjl, List.getD_eq_getElem?_getD, hj]
      rfl)
    rw [nums_length, bytesOf_nums] at hl
    have he : (⟨ByteArray.empty.data ++ xs.toArray⟩ : ByteArray) = ⟨xs.toArray⟩ := by
      apply ByteArray.ext
      show (#[] : Array UInt8) ++ xs.toArray = xs.toArray
      simp
    rw [he] at hl
    exact hl

theorem run_bcmp {w : World} {p q : Option Addr} {xs ys : Ord.Bytes} {c d : Nat} (h1 : Bs w p xs) (h2 : Bs w q ys) :
    (callFunc 24 #[.slice p xs.length c, .slice q ys.length d]).run Tryd.prog w = .ok (.value (.int .i64 (Lib.compareBytes xs ys))) w := by
  rw [run_callFunc_extern Tryd.func24 (by kernel_rfl) (by kernel_rfl) (by kernel_rfl) (e := Extern.BytealgCompare.compare) (by kernel_rfl)]
  have hc : (Extern.BytealgCompare.compare #[.slice p xs.length c, .slice q ys.length d]).run Tryd.prog w = .ok (.int .i64 (Lib.compareBytes xs ys)) w := by
    change Sem.run Tryd.prog (do pure (goInt (Extern.BytealgCompare.cmp (← Extern.Bytes.bytesOf (.slice p xs.length c)) (← Extern.Bytes.bytesOf (.slice q ys.length d))))) w = _
    simp only [Sem.run_bind, run_bytesOf h1, run_bytesOf h2, Sem.run_pure, Result.andThen]
    rw [Lib.cmp_eq]
    rfl
  rw [hc]
  rfl

theorem bcmp_any (w : World) (p q : Option Addr) (xs ys : Ord.Bytes) (c d : Nat) (h1 : Bs w p xs) (h2 : Bs w q ys) :
    Calls Tryd.prog 18 #[.slice p xs.length c, .slice q ys.length d] w fun e w' => e = .returned (.int .i64 (Ord.cmpBytes xs ys)) ∧ w = w' := by
  have hr := run_bcmp (c := c) (d := d) h1 h2
  go_enter Tryd.func18, Tryd.ntmps18
  go_wp2
  go_ret
  exact ⟨rfl, rfl⟩

theorem idx_any (xs : Ord.Bytes) (p : Option Addr) (cap : Nat) (c : UInt8) (w : World) (hb : Bs w p xs) (hp : p = none → cap = 0) :
    Calls Tryd.prog 35 #[.slice p xs.length cap, .int .u8 c.toNat] w fun e w' => e = .returned (.int .i64 (Lib.indexByte xs c)) ∧ w' = w := by
  cases p with
  | none =>
    obtain rfl := hb.none
    obtain rfl := hp rfl
    exact Any.bytes_IndexByte_nil Tryd.lays187 c.toNat w
  | some a =>
    have h : Calls Tryd.prog 35 _ w _ := Any.bytes_IndexByte_at Tryd.lays187 a xs.length cap (nums xs) c.toNat w (nums_length xs) hb.cells
    rw [bytesOf_nums] at h
    simpa using h

/-- Where a slice's tail begins. -/
def cutP (p : Option Addr) (cap k : Nat) : Option Addr := if cap = k then p else p.map (·.add k)

theorem Bs.cut {w : World} {p : Option Addr} {xs : Ord.Bytes} {cap k : Nat} (h : Bs w p xs) (hc : xs.length ≤ cap) (hk : k ≤ xs.length) (n : Nat) : Bs w (cutP p cap k) ((xs.take n).drop k) := by
  intro hl
  simp at hl
  obtain ⟨b, o, rfl, hcell⟩ := h (by omega)
  refine ⟨b, o + k, ?_, fun i hi => ?_⟩
  · unfold cutP
    rw [if_neg (by omega)]
    simp only [Option.map_some, add_plain']
  · simp at hi
    have := hcell (k + i) (by omega)
    rw [← Nat.add_assoc] at this
    rw [this]
    congr 3
    simp [List.getD_eq_getElem?_getD, List.getElem?_drop, List.getElem?_take]
    rw [if_pos (by omega)]

theorem run_cut (p : Option Addr) (n cap k : Nat) (hk : k ≤ n) (w : World) :
    (Instr.slice 23 (.slice p n cap) (some (.int .i64 k)) none none).run Tryd.prog w = .ok (.slice (cutP p cap k) (n - k) (cap - k)) w := by
  have ht := run_underlying Tryd.underlying23 (w := w)
  simp [Instr.slice, Instr.sliceBounds, Instr.sliceBound, go_sem, hk, cutP]

theorem run_cut2 (p : Option Addr) (n cap k m : Nat) (hk : k ≤ m) (hm : m ≤ cap) (w : World) :
    (Instr.slice 23 (.slice p n cap) (some (.int .i64 k)) (some (.int .i64 m)) none).run Tryd.prog w = .ok (.slice (cutP p cap k) (m - k) (cap - k)) w := by
  simp [Instr.slice, Instr.sliceBounds, Instr.sliceBound, go_sem, hk, hm, cutP]

end Go.Proofs.YtnhopkjichgckaaDoor
