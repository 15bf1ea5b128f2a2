/-
  What cut is made of: numbers in a row, turned about; a text's beginning taken off; what inner's contract is. Condition: lengths.
-/
import Derived.Test.YtfoehfehnmhhmaaGreatDoorW13
import Derived.Shelf.Slices.Cells
import Derived.Lib.LazyBuf
import Derived.Deep.OwnRows
import Derived.Shelf.Small.Wraps
namespace Go.Proofs.YtfoehfehnmhhmaaGreatDoor
open Go.RowKit Go.Shelf Go.Maps

/-- What inner is known to do. -/
def InnerC (f : Nat) : Prop := ∀ (w : World) (b : Nat) (vv av v : Value) (x : Wd.Ex) (s : Wd.Bytes) (l : List Wd.Un), ExAt w b vv av x v → Glo w → 8 ≤ b → s.length < 1073741824 → Wd.inner f x s = some l →
  Calls Tryz.prog 78 #[.pointer (some ⟨b, 0, none⟩), .string ⟨s.toArray⟩] w fun e w' => ∃ v2, e = .returned v2 ∧ w'.ownsRow w.heap.size 75 1 v2 l.length (l.map unV) ∧ ExIs w w' b vv av x v v

theorem inner_len {f : Nat} {x : Wd.Ex} {s : Wd.Bytes} {l : List Wd.Un} (h : Wd.inner f x s = some l) : l.length ≤ 1073741824 := by
  cases f with
  | zero => simp [Wd.inner] at h
  | succ f =>
    rw [Wd.inner.eq_def] at h
    simp only at h
    split at h
    · cases h
    · split at h
      · cases h
      · rename_i y _ h2
        obtain rfl := Option.some.inj h
        exact Nat.le_of_not_lt h2

theorem cutPrefix_any (s p : Wd.Bytes) (w : World) : Calls Tryz.prog 53 #[.string ⟨s.toArray⟩, .string ⟨p.toArray⟩] w fun e w' => e = .returned (.tuple #[.string ⟨(if Wd.pre p s then s.drop p.length else s).toArray⟩, .bool (Wd.pre p s)]) ∧ w' = w :=
  Any.strings_CutPrefix Tryz.lays103 ⟨s.toArray⟩ ⟨p.toArray⟩ w

theorem rowIs_kept {S : Nat → Prop} {w w' : World} {b : Nat} {t : TypeId} {n : Nat} {f : Nat → Value} (h : w.rowIs b t n f) (hk : Kept S w w') (hS : ¬ S b) : w'.rowIs b t n f := h.of_block (hk.block b h.lt hS)

theorem reversed_any (w : World) (q n c : Nat) (h : w.rowIs q 3 n (fun i => .int .i64 i)) (hn : n ≤ 4294967296) :
    Calls Tryz.prog 90 #[.slice (some ⟨q, 0, none⟩) n c] w fun e w' => e = .returned (.tuple #[]) ∧ w'.rowIs q 3 n (fun i => .int .i64 ((n - 1 - i : Nat) : Int)) ∧ Below q w w' := by
  have hl : ((List.range n).map (fun i : Nat => (i : Int))).length = n := by simp
  refine (Any.slices_Reverse_int_cells Tryz.lays112 q 0 n c ((List.range n).map (fun i : Nat => (i : Int))) w (by omega) (by omega) (fun j hj => ?_) (fun j _ => ?_)).mono ?_
  · rw [hl] at hj
    rw [Nat.zero_add, h.cell hj]
    simp [hj]
  · rw [Nat.zero_add]; exact h.frozen j
  · rintro e w' ⟨rfl, d, rfl⟩
    refine ⟨rfl, ?_, ?_⟩
    · have h2 : (w.drewN d).rowIs q 3 n (fun i => .int .i64 i) := h.of_block rfl
      have h3 := rowIs_setCells ((((List.range n).map (fun i : Nat => (i : Int))).take n).reverse.map (Value.int .i64)) 0 _ _ h2
      refine h3.congr fun i hi => ?_
      have hlen : ((((List.range n).map (fun i : Nat => (i : Int))).take n).reverse.map (Value.int .i64)).length = n := by simp
      rw [if_pos ⟨Nat.zero_le _, by rw [hlen]; omega⟩, Nat.sub_zero]
      rw [List.getElem?_map, List.getElem?_reverse (by simp [hi]), List.take_of_length_le (by simp)]
      simp [List.getElem?_range (show n - 1 - i < n by omega)]
    · exact below_setCells (Nat.le_refl _) _ 0 _ (show Below q w (w.drewN d) from ⟨rfl, rfl, rfl, Nat.le_refl _, fun _ _ => rfl⟩)

end Go.Proofs.YtfoehfehnmhhmaaGreatDoor
