/-
  The walks of classes, Size and Any. Condition: what they read lies in memory.
-/
import Derived.Test.YthdkbbkkijdhfaaGreatDoorW24
import Derived.Test.YthdkbbkkijdhfaaGreatDoorPLaw2
import Derived.BigRegion
namespace Go.Proofs.YthdkbbkkijdhfaaGreatDoor
open Go.RowKit Go.Shelf Go.Maps

theorem cl_step (s : Rx.Bytes) (i : Nat) (hi : i + 1 < s.length) : Rx.cl (s.drop i) = ((s[i]'(by omega) == 91 && (s[i + 1] == 58 || (s[i + 1] == 46 || s[i + 1] == 61))) || Rx.cl (s.drop (i + 1))) := by
  rw [List.drop_eq_getElem_cons (show i < s.length by omega), List.drop_eq_getElem_cons hi, Rx.cl]
theorem cl_end (s : Rx.Bytes) (i : Nat) (hi : s.length ≤ i + 1) : Rx.cl (s.drop i) = false := by
  have h : (s.drop i).length ≤ 1 := by simp; omega
  match hx : s.drop i with
  | [] => rfl
  | [_] => rfl
  | a :: b :: r => rw [hx] at h; simp at h

set_option maxHeartbeats 1600000 in
set_option maxRecDepth 100000 in
theorem lawClasses_any (s : Rx.Bytes) (w : World) (hl : s.length < 1073741824) :
    Calls Tryz.prog 23 #[.string ⟨s.toArray⟩] w fun e w' => e = .returned (.bool (Rx.cl s)) ∧ w' = w := by
  have H0 : Hid (Rx.cl s = Rx.cl (s.drop 0)) := rfl
  generalize Rx.cl s = R at *
  go_enter Tryz.func23, Tryz.ntmps23
  go_wp2_with fail
  go_loopw [3] (fun x3 wr => ∃ i : Nat, x3 = .int .i64 i ∧ i ≤ s.length ∧ Hid (R = Rx.cl (s.drop i)) ∧ wr = w) (fun x3 _ => s.length - (intOf x3).toNat)
  case atStart => exact ⟨0, rfl, Nat.zero_le _, H0, rfl⟩
  case round =>
    clear H0
    obtain ⟨i, rfl, hi, hq, rfl⟩ := hrel
    by_cases hlt : i + 1 < s.length
    · have hst := cl_step s i hlt
      obtain ⟨a, hA⟩ : ∃ a, s[i] = a := ⟨_, rfl⟩
      obtain ⟨c, hC⟩ : ∃ c, s[i + 1] = c := ⟨_, rfl⟩
      have e1 : ∀ h, (⟨s.toArray⟩ : ByteArray)[i]'h = a := fun h => hA
      have e2 : ∀ h, (⟨s.toArray⟩ : ByteArray)[i + 1]'h = c := fun h => hC
      have HR : Hid (R = ((a == 91 && (c == 58 || (c == 46 || c == 61))) || Rx.cl (s.drop (i + 1)))) := by show _ = _; rw [hq.out, hst, hA, hC]
      clear hq hst hA hC
      by_cases ha : a = 91
      · subst ha
        by_cases c1 : c = 58
        · subst c1
          go_wp2_with fail
          go_ret
          refine ⟨ret_bool ?_, rfl⟩
          rw [HR.out]
          simp
        by_cases c2 : c = 46
        · subst c2
          go_wp2_with fail
          go_ret
          refine ⟨ret_bool ?_, rfl⟩
          rw [HR.out]
          simp
        by_cases c3 : c = 61
        · subst c3
          go_wp2_with fail
          go_ret
          refine ⟨ret_bool ?_, rfl⟩
          rw [HR.out]
          simp
        have r1 : ¬ ((c.toNat : Int) = 58) := u8_ne c1
        have r2 : ¬ ((c.toNat : Int) = 46) := u8_ne c2
        have r3 : ¬ ((c.toNat : Int) = 61) := u8_ne c3
        have HR2 : Hid (R = Rx.cl (s.drop (i + 1))) := by show _ = _; rw [HR.out]; simp [c1, c2, c3]
        clear c1 c2 c3 HR
        go_wp2_with fail
        refine ⟨⟨i + 1, by go_num, by omega, HR2, trivial⟩, ?_⟩
        show s.length - ((i : Int) + 1).toNat < s.length - (i : Int).toNat
        omega
      · have r1 : ¬ ((a.toNat : Int) = 91) := u8_ne ha
        have HR2 : Hid (R = Rx.cl (s.drop (i + 1))) := by show _ = _; rw [HR.out]; simp [ha]
        clear ha HR
        go_wp2_with fail
        refine ⟨⟨i + 1, by go_num, by omega, HR2, trivial⟩, ?_⟩
        show s.length - ((i : Int) + 1).toNat < s.length - (i : Int).toNat
        omega
    · have HR : Hid (R = false) := by show _ = _; rw [hq.out, cl_end s i (by omega)]
      clear hq
      go_wp2_with fail
      go_ret
      exact ⟨by rw [HR.out]; rfl, rfl⟩

theorem Size_any (B q : Nat) (n : Rx.Nd) (w : World) (h : ReAt w B q n) :
    Calls Tryz.prog 25 #[.pointer (some ⟨q, 0, none⟩)] w fun e w' => e = .returned (.int .i64 n.size) ∧ w' = w := by
  obtain ⟨p, hb, hq, hn⟩ := h
  have ht := size_any hn
  have c0 : w.cell? ⟨q, 0, none⟩ = some (.pointer (some ⟨p, 0, none⟩)) := hb.cell 0 rfl
  go_enter Tryz.func25, Tryz.ntmps25
  go_wp2_with fail
  refine ht.mono ?_
  rintro e w' ⟨rfl, rfl⟩
  go_wp2_with fail
  go_ret
  exact ⟨rfl, rfl⟩

/-- Two expressions behind a pointer. -/
structure Two (w : World) (lb q1 q2 : Nat) (n1 n2 : Rx.Nd) : Prop where
  c0 : w.cell? ⟨lb, 0, none⟩ = some (.pointer (some ⟨q1, 0, none⟩))
  c1 : w.cell? ⟨lb, 1, none⟩ = some (.pointer (some ⟨q2, 0, none⟩))
  r1 : ReAt w 0 q1 n1
  r2 : ReAt w 0 q2 n2

theorem ReAt.low {w : World} {B q : Nat} {n : Rx.Nd} (h : ReAt w B q n) : ReAt w 0 q n := by
  obtain ⟨p, h1, _, h3⟩ := h
  exact ⟨p, h1, Nat.zero_le _, h3.mono fun _ _ => Nat.zero_le _⟩
theorem ReAt.still {w w' : World} {B q : Nat} {n : Rx.Nd} (h : ReAt w B q n) (hb : Below w.heap.size w w') : ReAt w' B q n := h.keep hb (Nat.le_refl _)

theorem Any_none (w : World) : Calls Tryz.prog 26 #[.slice none 0 0] w fun e w' => (∃ q, e = .returned (.pointer (some ⟨q, 0, none⟩)) ∧ ReAt w' 0 q (.set fun _ => false)) ∧ Below w.heap.size w w' := by
  go_enter Tryz.func26, Tryz.ntmps26
  go_wp2_with fail
  rw [nd_new]
  go_ret
  refine ⟨⟨w.heap.size + 1, rfl, w.heap.size, ?_, Nat.zero_le _, ?_⟩, (((Kept.refl (fun _ => False) w).alloc _).alloc _).below⟩
  · have := Blk.new (w.alloc (.cells (ndCells 1 (fun _ => false) 0 0 (.slice none 0 0)) 87)) #[ptrV w.heap.size] 78
    simpa [ptrV] using this
  · exact .set (Nat.zero_le _) ((Blk.new w _ _).alloc _)

set_option maxHeartbeats 3200000 in
set_option maxRecDepth 100000 in
theorem Any_two (w : World) (lb q1 q2 c : Nat) (n1 n2 : Rx.Nd) (h : Two w lb q1 q2 n1 n2) :
    Calls Tryz.prog 26 #[.slice (some ⟨lb, 0, none⟩) 2 c] w fun e w' => (∃ q, e = .returned (.pointer (some ⟨q, 0, none⟩)) ∧ ReAt w' 0 q (.alt [n1, n2])) ∧ Below w.heap.size w w' := by
  obtain ⟨c0, c1, ⟨p1, b1, -, hn1⟩, ⟨p2, b2, -, hn2⟩⟩ := h
  have d1 : w.cell? ⟨q1, 0, none⟩ = some (.pointer (some ⟨p1, 0, none⟩)) := b1.cell 0 rfl
  have d2 : w.cell? ⟨q2, 0, none⟩ = some (.pointer (some ⟨p2, 0, none⟩)) := b2.cell 0 rfl
  have HC : Hid (∀ w' i, Below w.heap.size w w' → i < 2 → w'.cell? ⟨lb, i, none⟩ = some (.pointer (some ⟨[q1, q2].getD i 0, 0, none⟩)) ∧ w'.cell? ⟨[q1, q2].getD i 0, 0, none⟩ = some (.pointer (some ⟨[p1, p2].getD i 0, 0, none⟩)) ∧
      ([n1, n2].take i ++ [[n1, n2].getD i .empty] = [n1, n2].take (i + 1)) ∧ NdAt w' 0 ([p1, p2].getD i 0) ([n1, n2].getD i .empty) ∧ NdAt w 0 ([p1, p2].getD i 0) ([n1, n2].getD i .empty)) := by
    intro w' i hb hi
    have k1 := World.block_lt_of_cell? _ _ c0
    have k2 := World.block_lt_of_cell? _ _ d1
    have k3 := World.block_lt_of_cell? _ _ d2
    match i, hi with
    | 0, _ => exact ⟨by rw [hb.cell (p := ⟨lb, 0, none⟩) k1]; exact c0, by rw [hb.cell (p := ⟨[q1, q2].getD 0 0, 0, none⟩) k2]; exact d1, rfl, hn1.kept (Kept.of_below (S := fun _ => False) hb) fun _ _ h => h, hn1⟩
    | 1, _ => exact ⟨by rw [hb.cell (p := ⟨lb, 1, none⟩) k1]; exact c1, by rw [hb.cell (p := ⟨[q1, q2].getD 1 0, 0, none⟩) k3]; exact d2, rfl, hn2.kept (Kept.of_below (S := fun _ => False) hb) fun _ _ h => h, hn2⟩
  obtain ⟨i0, hi, hz0, hz1, hz2⟩ := info_parts info_node
  clear hn1 hn2 b1 b2 c0 c1 d1 d2
  go_enter Tryz.func26, Tryz.ntmps26
  go_wp2_with fail
  go_loopw [3, 5, 15] (fun x3 _x5 x15 wr => ∃ (i : Nat) (ps : List Nat), i ≤ 2 ∧ x15 = .int .i64 i ∧ NdsAt wr 0 x3 ([n1, n2].take i) ps ∧ Below w.heap.size w wr ∧ (∀ k, x3.ownBlock = some k → w.heap.size ≤ k)) (fun _ _ x15 _ => 2 - (intOf x15).toNat)
  case atStart => exact ⟨0, [], Nat.zero_le _, rfl, NdsAt.nil _ _, Below.refl _ _, fun k e => by simp [Value.ownBlock] at e⟩
  case round =>
    obtain ⟨i, ps, hi2, rfl, hnds, hbw, hob⟩ := hrel
    by_cases hlt : i < 2
    · obtain ⟨ca, cb, htk, hnd, hnd0⟩ := HC.out wr i hbw hlt
      have hpl : ps.length = i := by
        rw [hnds.len, List.length_take]
        simp
        omega
      have HND := Lib.hid hnds
      have HBW := Lib.hid hbw
      have HTK := Lib.hid htk
      have HN1 : Hid (NdIn wr (fun b => 0 ≤ b ∧ u3.ownBlock ≠ some b) ([p1, p2].getD i 0) ([n1, n2].getD i .empty)) :=
        (hnd0.lt.kept (Kept.of_below (S := fun _ => False) hbw) fun _ _ h => h).mono fun k hk => ⟨Nat.zero_le _, fun e => by have := hob k e; have := hk.2; omega⟩
      have HOB := Lib.hid hob
      have hown := hnds.own
      clear hnds hbw htk hnd hnd0 hob
      generalize [p1, p2].getD i 0 = pi at *
      generalize [n1, n2].getD i .empty = ni at *
      generalize [q1, q2].getD i 0 = qi at *
      generalize [n1, n2].take i = Li at *
      go_wp2_with (at_builtin; refine wpList_append_own_at _ rfl _ _ 74 rfl 0 45 i0 (.pointer none) 1 8 Tryz.underlying74 hi hz0 hz1 hz2 rfl (by decide) _ _ _ rfl (hown.alloc _) ⟨wr.heap.size, 0, none⟩ 1 1 [ptrV pi] rfl rfl (cell_one_new _ _ _) (by simp [ptrV, Value.oneCell']) (by unfold maxLen; omega) (by omega) (Nat.zero_le _) ?_; intro v' w5 hown' hgrow _ hv')
      have hgrow : (wr.alloc (.cells #[ptrV pi] 45)).grownBy w5 u3.ownBlock := hgrow
      have hv' : v'.ownBlock = u3.ownBlock ∨ v'.ownBlock = some (wr.alloc (.cells #[ptrV pi] 45)).heap.size := hv'
      have hb5 : Below w.heap.size w w5 := ((Kept.of_below (S := fun _ => False) HBW.out).pushed hgrow HOB.out).below
      refine ⟨⟨i + 1, ps ++ [pi], by omega, by go_num, ?_, hb5, fun k e => ?_⟩, ?_⟩
      · rw [← HTK.out]
        exact HND.out.push HN1.out hown' hgrow hv'
      · rcases hv' with hv' | hv'
        · exact HOB.out k (hv' ▸ e)
        · rw [hv'] at e
          have := Option.some.inj e
          have := HBW.out.size
          simp at *
          omega
      · show 2 - ((i : Int) + 1).toNat < 2 - (i : Int).toNat
        omega
    · obtain rfl : i = 2 := by omega
      have hj := join_any 5 .alt .alt _ _ ps 0 _ hnds (Nat.zero_le _) (by simp)
      have HBW := Lib.hid hbw
      clear hnds hbw hob
      go_wp2_with fail
      refine hj.mono ?_
      rintro e w3 ⟨⟨p, rfl, hn⟩, hb3⟩
      go_wp2_with fail
      go_ret
      have hb4 := HBW.out.trans (hb3.mono HBW.out.size)
      exact ⟨⟨w3.heap.size, rfl, p, Blk.new _ _ _, Nat.zero_le _, hn.kept ((Kept.refl (fun _ => False) _).alloc _) fun _ _ h => h⟩, hb4.alloc hb4.size _⟩

theorem whole_at (w : World) (p : Nat) (n : Rx.Nd) (hn : NdAt w 0 p n) :
    ReAt (((((w.alloc (.cells (ndCells 2 noHas 0 0 (.slice none 0 0)) 87)).alloc (.cells (ndCells 3 noHas 0 0 (.slice none 0 0)) 87)).alloc (.cells #[ptrV w.heap.size, ptrV p, ptrV (w.heap.size + 1)] 45)).alloc
      (.cells (ndCells 4 noHas 0 0 (.slice (some ⟨w.heap.size + 1 + 1, 0, none⟩) 3 3)) 87)).alloc (.cells #[ptrV (w.heap.size + 1 + 1 + 1)] 78)) 0 (w.heap.size + 1 + 1 + 1 + 1) (.cat [.beg, n, .fin]) := by
  generalize ho1 : Obj.cells (ndCells 2 noHas 0 0 (.slice none 0 0)) 87 = o1
  generalize ho2 : Obj.cells (ndCells 3 noHas 0 0 (.slice none 0 0)) 87 = o2
  generalize ho3 : Obj.cells #[ptrV w.heap.size, ptrV p, ptrV (w.heap.size + 1)] 45 = o3
  generalize ho4 : Obj.cells (ndCells 4 noHas 0 0 (.slice (some ⟨w.heap.size + 1 + 1, 0, none⟩) 3 3)) 87 = o4
  generalize ho5 : Obj.cells #[ptrV (w.heap.size + 1 + 1 + 1)] 78 = o5
  have s1 : (w.alloc o1).heap.size = w.heap.size + 1 := by simp
  have s2 : ((w.alloc o1).alloc o2).heap.size = w.heap.size + 1 + 1 := by simp
  have s3 : (((w.alloc o1).alloc o2).alloc o3).heap.size = w.heap.size + 1 + 1 + 1 := by simp
  have s4 : ((((w.alloc o1).alloc o2).alloc o3).alloc o4).heap.size = w.heap.size + 1 + 1 + 1 + 1 := by simp
  have b1 : Blk (((((w.alloc o1).alloc o2).alloc o3).alloc o4).alloc o5) w.heap.size (ndCells 2 noHas 0 0 (.slice none 0 0)) 87 := by
    subst ho1; exact ((((Blk.new w _ _).alloc _).alloc _).alloc _).alloc _
  have b2 : Blk (((((w.alloc o1).alloc o2).alloc o3).alloc o4).alloc o5) (w.heap.size + 1) (ndCells 3 noHas 0 0 (.slice none 0 0)) 87 := by
    rw [← s1]; subst ho2; exact (((Blk.new _ _ _).alloc _).alloc _).alloc _
  have b3 : Blk (((((w.alloc o1).alloc o2).alloc o3).alloc o4).alloc o5) (w.heap.size + 1 + 1) #[ptrV w.heap.size, ptrV p, ptrV (w.heap.size + 1)] 45 := by
    rw [← s2]; subst ho3; exact ((Blk.new _ _ _).alloc _).alloc _
  have b4 : Blk (((((w.alloc o1).alloc o2).alloc o3).alloc o4).alloc o5) (w.heap.size + 1 + 1 + 1) (ndCells 4 noHas 0 0 (.slice (some ⟨w.heap.size + 1 + 1, 0, none⟩) 3 3)) 87 := by
    rw [← s3]; subst ho4; exact (Blk.new _ _ _).alloc _
  have b5 : Blk (((((w.alloc o1).alloc o2).alloc o3).alloc o4).alloc o5) (w.heap.size + 1 + 1 + 1 + 1) #[ptrV (w.heap.size + 1 + 1 + 1)] 78 := by
    rw [← s4]; subst ho5; exact Blk.new _ _ _
  have hn5 := hn.kept (S := fun _ => False) ((((((Kept.refl _ w).alloc o1).alloc o2).alloc o3).alloc o4).alloc o5) fun _ _ h => h
  refine ⟨_, b5, Nat.zero_le _, .cat (ps := [w.heap.size, p, w.heap.size + 1]) (Nat.zero_le _) b4 (by simp) ⟨by simp, by simp⟩ (Nat.zero_le _) rfl (fun i hi => ?_) fun i hi => ?_⟩
  · match i, hi with
    | 0, _ => exact b3.cell 0 rfl
    | 1, _ => exact b3.cell 1 rfl
    | 2, _ => exact b3.cell 2 rfl
  · match i, hi with
    | 0, _ => exact .beg (Nat.zero_le _) b1
    | 1, _ => exact hn5
    | 2, _ => exact .fin (Nat.zero_le _) b2

theorem Whole_any (w : World) (q : Nat) (n : Rx.Nd) (h : ReAt w 0 q n) :
    Calls Tryz.prog 27 #[.pointer (some ⟨q, 0, none⟩)] w fun e w' => (∃ q', e = .returned (.pointer (some ⟨q', 0, none⟩)) ∧ ReAt w' 0 q' (.cat [.beg, n, .fin])) ∧ Below w.heap.size w w' := by
  obtain ⟨p, b, -, hn⟩ := h
  have d : w.cell? ⟨q, 0, none⟩ = some (.pointer (some ⟨p, 0, none⟩)) := b.cell 0 rfl
  have d2 := new_cell d
  have H := Lib.hid hn
  clear hn b
  go_enter Tryz.func27, Tryz.ntmps27
  go_wp2_with fail
  rw [nd_new2, nd_new, nd_new]
  go_ret
  exact ⟨⟨_, rfl, whole_at w p n H.out⟩, ((((((Kept.refl (fun _ => False) w).alloc _).alloc _).alloc _).alloc _).alloc _).below⟩

end Go.Proofs.YthdkbbkkijdhfaaGreatDoor
