/-
  The walk of Literal. Condition: the text is shorter than 2^30 bytes; the library's variables hold what they hold.
-/
import Derived.Test.YthdkbbkkijdhfaaGreatDoorW24
namespace Go.Proofs.YthdkbbkkijdhfaaGreatDoor
open Go.RowKit Go.Shelf Go.Maps

/-- The node of a text alone. -/
def litNd (fold : Bool) (s : Rx.Bytes) : Rx.Nd := Rx.joinN .cat (s.map (Rx.one fold))

set_option maxHeartbeats 3200000 in
set_option maxRecDepth 100000 in
theorem Literal_any (s : Rx.Bytes) (fold : Bool) (w : World) (hg : Glo w) (h8 : 8 ≤ w.heap.size) (hl : s.length < 1073741824) :
    Calls Tryz.prog 14 #[.string ⟨s.toArray⟩, .bool fold] w fun e w' => (∃ q, e = .returned (.pointer (some ⟨q, 0, none⟩)) ∧ ReAt w' w.heap.size q (litNd fold s)) ∧ Below w.heap.size w w' := by
  have hk : Kept (fun _ => False) w (w.alloc (.cells #[.string ⟨#[]⟩, .bool false, .bool fold] 73)) := (Kept.refl _ _).alloc _
  have hsz : (w.alloc (.cells #[.string ⟨#[]⟩, .bool false, .bool fold] 73)).heap.size = w.heap.size + 1 := by simp
  have hr : Rd (w.alloc (.cells #[.string ⟨#[]⟩, .bool false, .bool fold] 73)) w.heap.size [] false fold :=
    ⟨Blk.new _ _ _, hg.kept hk (fun _ h => h.elim) h8, h8, by decide⟩
  obtain ⟨i0, hi, hz0, hz1, hz2⟩ := info_parts info_node
  go_enter Tryz.func14, Tryz.ntmps14
  go_wp2_with fail
  generalize w.alloc (.cells #[.string ⟨#[]⟩, .bool false, .bool fold] 73) = w1 at *
  have hrlt := hr.lt
  have G0 : Go1 w1 w1 w.heap.size [] false fold := ⟨hr, Kept.refl _ _⟩
  have HR := Lib.hid hr
  clear hr
  go_loopw [6, 7, 13] (fun x6 _x7 x13 wr => ∃ (i : Nat) (ps : List Nat), i ≤ s.length ∧ x13 = .int .i64 i ∧ NdsAt wr w1.heap.size x6 ((s.take i).map (Rx.one fold)) ps ∧ Go1 w1 wr w.heap.size [] false fold ∧ Below w.heap.size w wr) (fun _ _ x13 _ => s.length - (intOf x13).toNat)
  case atStart => exact ⟨0, [], Nat.zero_le _, rfl, NdsAt.nil _ _, G0, hk.below⟩
  case round =>
    clear G0
    obtain ⟨i, ps, hi', rfl, hnds, G, hbw⟩ := hrel
    by_cases hlt : i < s.length
    · have hone := one_any w.heap.size s[i] [] false fold _ G.rd.at_
      have HTK : Hid ((s.take (i + 1)).map (Rx.one fold) = (s.take i).map (Rx.one fold) ++ [Rx.one fold s[i]]) := by
        show _ = _
        rw [List.take_succ_eq_append_getElem hlt, List.map_append]
        rfl
      have hpl : ps.length = i := by rw [hnds.len, List.length_map, List.length_take]; omega
      have HND := Lib.hid hnds
      have HBW := Lib.hid hbw
      clear hnds hbw
      generalize (s.take i).map (Rx.one fold) = Li at *
      go_wp2_with fail
      refine hone.mono ?_
      rintro e w3 ⟨rfl, hb3, hbl3⟩
      have hnd3 := HND.out.kept (Kept.of_below (S := fun _ => False) hbl3) (fun _ _ h => h)
      have hown := hnd3.own
      have G3 : Go1 w1 w3 w.heap.size [] false fold := G.go (G.rd.at_.keep hbl3 G.rd.lt) (Kept.of_below hbl3) (Nat.le_refl _)
      have hszr := HBW.out.size
      have HB3 : Hid (Below w.heap.size w w3) := HBW.out.trans (hbl3.mono hszr)
      have hw13 := G.kept.size
      have hszr3 := hbl3.size
      have hnew : NdIn w3 (fun b => w1.heap.size ≤ b ∧ u6.ownBlock ≠ some b) wr.heap.size (Rx.one fold s[i]) := .set ⟨hw13, fun e => by
        have := (HND.out.own.lt _ e).2
        omega⟩ hb3
      have HOB : Hid (∀ k, u6.ownBlock = some k → w1.heap.size ≤ k) := fun k e => (hown.lt k e).1
      have HND3 := Lib.hid hnd3
      have HNEW := Lib.hid hnew
      clear hnd3 hnew hb3 hbl3 hone G
      go_wp2_with (at_builtin; refine wpList_append_own_at _ rfl _ _ 74 rfl w1.heap.size 45 i0 (.pointer none) 1 8 Tryz.underlying74 hi hz0 hz1 hz2 rfl (by decide) _ _ _ rfl (hown.alloc _) ⟨w3.heap.size, 0, none⟩ 1 1 [ptrV wr.heap.size] rfl rfl (cell_one_new _ _ _) (by simp [ptrV, Value.oneCell']) (by unfold maxLen; omega) (by omega) (by simp; omega) ?_; intro v' w5 hown' hgrow _ hv')
      have hgrow : (w3.alloc (.cells #[ptrV wr.heap.size] 45)).grownBy w5 u6.ownBlock := hgrow
      have hv' : v'.ownBlock = u6.ownBlock ∨ v'.ownBlock = some (w3.alloc (.cells #[ptrV wr.heap.size] 45)).heap.size := hv'
      have G5 := G3.pushed hgrow HOB.out hrlt
      have hb5 : Below w.heap.size w w5 := ((Kept.of_below (S := fun _ => False) HB3.out).pushed hgrow (fun k e => by have := HOB.out k e; omega)).below
      refine ⟨⟨i + 1, ps ++ [wr.heap.size], by omega, by go_num, ?_, G5, hb5⟩, ?_⟩
      · rw [HTK.out]
        exact HND3.out.push HNEW.out hown' hgrow hv'
      · show s.length - ((i : Int) + 1).toNat < s.length - (i : Int).toNat
        omega
    · obtain rfl : i = s.length := by omega
      rw [List.take_of_length_le (Nat.le_refl _)] at hnds
      have hj := join_any 4 .cat .cat _ _ ps w1.heap.size _ hnds G.kept.size (by rw [List.length_map]; omega)
      have HBW := Lib.hid hbw
      clear hnds hbw
      go_wp2_with fail
      refine hj.mono ?_
      rintro e w3 ⟨⟨p, rfl, hn⟩, hb3⟩
      go_wp2_with fail
      go_ret
      have hb4 := HBW.out.trans (hb3.mono HBW.out.size)
      refine ⟨⟨w3.heap.size, rfl, p, Blk.new _ _ _, hb4.size, (hn.kept ((Kept.refl (fun _ => False) _).alloc _) fun _ _ h => h).mono fun k hk => by omega⟩, hb4.alloc hb4.size _⟩

end Go.Proofs.YthdkbbkkijdhfaaGreatDoor
