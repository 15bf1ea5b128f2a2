/-
  strings.Join of a slice of strings that the call owns. Condition: what is told lies in memory, and is no longer than memory allows.
-/
import Derived.Test.YthdkbbkkijdhfaaGreatDoorSpec
import Derived.Test.YthdkbbkkijdhfaaGreatDoorBase
import Derived.Shelf.Strings.OnBuilder
import Derived.Maps.AppendAt
namespace Go.Proofs.YthdkbbkkijdhfaaGreatDoor
open Go.RowKit Go.Shelf

theorem builderX : Builder.Extra Tryz.prog Tryz.lays156_ren := {
  sizeBuilder := by kernel_rfl
  liesBuilder := by kernel_rfl
  t5 := Tryz.underlying5
  a5 := Tryz.isAgg5
  z5 := Tryz.sizeOf5
  v5 := Tryz.zeroValue5
  infoByte := by kernel_rfl
  cellsByte := by kernel_rfl
  sizeByte := by kernel_rfl
  neB5 := by decide }

def strV (x : Rx.Bytes) : Value := .string ⟨x.toArray⟩
/-- Strings that a call owns, behind a slice. -/
structure StrsAt (w : World) (B : Nat) (v : Value) (l : List Rx.Bytes) : Prop where
  none_ : l = [] → v = .slice none 0 0
  own : w.ownsRow B 9 1 v l.length (l.map strV)

theorem StrsAt.nil (w : World) (B : Nat) : StrsAt w B (.slice none 0 0) [] := ⟨fun _ => rfl, World.ownsRow_nil _ _ _ _⟩

theorem sepBy_join (sep : Rx.Bytes) : ∀ l : List Rx.Bytes, Lib.join l sep = Rx.sepBy sep l
  | [] => rfl
  | [x] => by simp [Lib.join, Rx.sepBy]
  | x :: y :: r => by
    have ih := sepBy_join sep (y :: r)
    simp only [Lib.join, Rx.sepBy] at ih ⊢
    simp [ih]

theorem info_str : (Tryz.prog.info? 9).map (fun i => (i.zero, i.size, i.bytes)) = some (some (.string ⟨#[]⟩), 1, 16) := by kernel_rfl

theorem joinS_any (sep : Rx.Bytes) (v : Value) (l : List Rx.Bytes) (B : Nat) (w : World) (h : StrsAt w B v l) (hl : l.length ≤ 140737488355328) (hlen : (Rx.sepBy sep l).length ≤ 140737488355328) :
    Calls Tryz.prog 57 #[v, .string ⟨sep.toArray⟩] w fun e w' => e = .returned (.string ⟨(Rx.sepBy sep l).toArray⟩) ∧ Below w.heap.size w w' := by
  rcases h.own.2 with ⟨rfl, h2⟩ | ⟨g, cap, cur, e, hg, hb, hc, hm, hs, ht⟩
  · have : l = [] := List.length_eq_zero_iff.1 h2
    subst this
    refine (Any.strings_Join_none Tryz.lays156 builderX none 0 ⟨sep.toArray⟩ w).mono ?_
    rintro e w' ⟨rfl, rfl⟩
    exact ⟨rfl, Below.refl _ _⟩
  · have hmap : (l.map fun x => (⟨x.toArray⟩ : ByteArray)).map (·.data.toList) = l := by
      rw [List.map_map]
      conv => rhs; rw [← List.map_id l]
      rfl
    have := Any.strings_Join Tryz.lays156 builderX g 0 cap (l.map fun x => ⟨x.toArray⟩) ⟨sep.toArray⟩ w (fun j x hj => by
      have hx := h.own.cells (g := g) (by rw [e]; rfl) j (.string x) (by
        rw [List.getElem?_map] at hj ⊢
        rw [Option.map_eq_some_iff] at hj
        obtain ⟨y, hy, rfl⟩ := hj
        rw [hy]; rfl)
      rw [show ((⟨g, 0, none⟩ : Addr).add j) = ⟨g, 0 + j, none⟩ by simp only [Addr.add]; split <;> simp_all] at hx
      exact hx) (lt_of_block hb) (by simpa using hl) (by simpa using hc) (by
        rw [hmap, sepBy_join]; exact hlen)
    rw [hmap, sepBy_join, List.length_map] at this
    rw [e]
    exact this

end Go.Proofs.YthdkbbkkijdhfaaGreatDoor
