/-
  Texts of this seat put together: R13.
-/
import Derived.Test.YthdkbbkkijdhfaaGreatDoorH30

/-
  The walk of the reference's branches, given branch's. Condition: what is told lies in memory.
-/
namespace Go.Proofs.YthdkbbkkijdhfaaGreatDoor
open Go.RowKit Go.Shelf Go.Maps

/-- What the loop of branches keeps. -/
structure BsR (w wr : World) (r : Nat) (s : Rx.Bytes) (a a1 : Nat) (v : Value) (ps : List Nat) : Prop where
  pts : PtsAt wr w.heap.size v ps
  go : GoR w wr r s a1 true false
  le : a ≤ a1
  len : ps.length + (s.length - a1) ≤ s.length - a
  tr : ∃ l, TreesAt wr w.heap.size wr.heap.size v ps l ∧ ∀ f, 3 * (s.length - a) + 3 ≤ f → ∃ f', 3 * (s.length - a1) + 3 ≤ f' ∧ Rx.branches false f (s.drop a) = (Rx.branches false f' (s.drop a1)).map fun x => (l.map strip ++ x.1, x.2)

set_option maxHeartbeats 6400000 in
set_option maxRecDepth 100000 in
theorem rbranches_any (L : Nat) (hA : RBranchC L) : RBranchesC L := by
  intro r s a w hr ha hl hL
  have hrlt := Blk.lt hr
  have I : BsR w w r s a a (.slice none 0 0) [] := ⟨PtsAt.nil _ _, ⟨hr, Kept.refl _ _, ha, hl⟩, Nat.le_refl _, by simp, ⟨[], TreesAt.nil _ _ (Nat.le_refl _), fun f hf => ⟨f, hf, by
    rcases Rx.branches false f (s.drop a) with _ | ⟨l, s'⟩ <;> rfl⟩⟩⟩
  have HA := Lib.hid hA
  clear hA hr
  obtain ⟨i0, hi, hz0, hz1, hz2⟩ := info_parts info_rnode
  go_enter Tryz.func29, Tryz.ntmps29
  go_wp2_with fail
  go_loopw [3, 4] (fun x3 _x4 wr => ∃ ps a1, BsR w wr r s a a1 x3 ps) (fun _ _ wr => s.length - atOf wr r)
  case atStart => exact ⟨_, _, I⟩
  case round =>
    clear I
    obtain ⟨ps, a1, I⟩ := hrel
    have HI := Lib.hid I
    have hwr := I.go.kept.size
    have hle1 := I.le
    have hlen := I.len
    have hbr := HA.out r s a1 wr I.go.rd I.go.le.1 hl (by omega)
    clear I
    go_wp2_with fail
    refine hbr.mono ?_
    rintro e w2 ⟨q, a2, b2, rfl, G2, hlo, htree⟩
    have hk2 := G2.kept
    have G4 : GoR w w2 r s a2 true b2 := HI.out.go.go G2.rd G2.kept G2.le.1
    have HPT := Lib.hid (HI.out.pts.kept hk2 (fun k hk e => by omega))
    have HTREE := Lib.hid htree
    have HPL : Hid (ps.length + 1 < 1073741825) := by
      have := HI.out.go.le
      show _ < _
      omega
    have HK2 := Lib.hid hk2
    have HG4 := Lib.hid G4
    have hw2 := G4.kept.size
    clear hbr hk2 G2 G4 htree
    have hown := HPT.out.own
    have hob : ∀ k, u3.ownBlock = some k → w.heap.size ≤ k := fun k e => (hown.lt k e).1
    have HOB := Lib.hid hob
    clear hob
    go_wp2_with (at_builtin; refine wpList_append_own_at _ rfl _ _ 66 rfl w.heap.size 24 i0 (.pointer none) 1 8 Tryz.underlying66 hi hz0 hz1 hz2 rfl (by decide) _ _ _ rfl (hown.alloc _) ⟨w2.heap.size, 0, none⟩ 1 1 [ptrV q] rfl rfl (cell_one_new _ _ _) (by simp [ptrV, Value.oneCell']) (by unfold maxLen; omega) (by have := HPL.out; omega) (by simp; omega) ?_; intro v' w5 hown' hgrow _ hv')
    have hgrow : (w2.alloc (.cells #[ptrV q] 24)).grownBy w5 u3.ownBlock := hgrow
    have hv' : v'.ownBlock = u3.ownBlock ∨ v'.ownBlock = some (w2.alloc (.cells #[ptrV q] 24)).heap.size := hv'
    have hlt2 := HI.out.pts.own.lt
    have G5 := HG4.out.pushed hgrow HOB.out hrlt
    have hs2 := HK2.out.size
    have hs5 : w2.heap.size ≤ w5.heap.size := by
      have h1 := hgrow.size
      have h2 : (w2.alloc (.cells #[ptrV q] 24)).heap.size = w2.heap.size + 1 := by simp
      omega
    have HT5 : Hid (b2 = false → ∃ l t, TreesAt w5 w.heap.size w5.heap.size v' (ps ++ [q]) (l ++ [t]) ∧ ∀ f, 3 * (s.length - a) + 3 ≤ f → ∃ g, 3 * (s.length - a1) + 2 ≤ g ∧ Rx.branches false f (s.drop a) = (match Rx.take [124] (s.drop a2) with
        | none => some ([strip t], s.drop a2)
        | some s2 => (Rx.branches false g s2).map fun (x : List Rx.Nd × Rx.Bytes) => (strip t :: x.1, x.2)).map fun (x : List Rx.Nd × Rx.Bytes) => (l.map strip ++ x.1, x.2)) := by
      intro hb
      obtain ⟨l, htr, hfu⟩ := HI.out.tr
      obtain ⟨t, hn2, hq⟩ := HTREE.out hb
      refine ⟨l, t, ((htr.kept HK2.out fun k hk _ _ e => by omega).push (H' := w2.heap.size) hn2 (fun b hb => ⟨hb.1, hb.2, by omega, fun e => by have := (hlt2 b e).2; omega⟩) hs2 (Nat.le_refl _) hgrow hv').up hs5 (Nat.le_refl _), fun f hf => ?_⟩
      obtain ⟨f', hf', he⟩ := hfu f hf
      obtain ⟨g, rfl⟩ : ∃ g, f' = g + 1 := ⟨f' - 1, by omega⟩
      refine ⟨g, by omega, ?_⟩
      rw [he, branches_eq, hq g (by omega)]
      rfl
    have HPT5 := Lib.hid (PtsAt.push hown')
    have hpl : (ps ++ [q]).length = ps.length + 1 := by simp
    clear hgrow hv' hown' hown
    have hc := rtakes_ans r s [124] a2 true false b2 w5 G5.rd G5.le.1 G5.le.2 (by decide)
    have hpts := HPT5.out
    have HG5 := Lib.hid G5
    clear G5
    go_wp2_with fail
    refine hc.mono ?_
    rintro e w6 ⟨more, a6, rfl, hr6, hk6, hl6, hal6, HT6⟩
    clear hc
    have G6 := HG5.out.go hr6 hk6 hal6
    have hpts6 := hpts.kept hk6 (fun k hk e => by omega)
    have HK6 := Lib.hid hk6
    have HPT6 := Lib.hid hpts6
    have c4 := G6.rd.c4
    have HG6 := Lib.hid G6
    clear G6 hpts hpts6 hr6 hk6
    go_upto_region 4 with fail
    go_cut [4, 11, 12, 13, 14, 15, 16, 17, 18, 19] (fun _s4 _s11 _s12 _s13 _s14 _s15 _s16 _s17 _s18 s19 wx => s19 = .bool (!more || b2) ∧ wx = w6)
    case first =>
      cases more
      all_goals go_wp2_with fail
      all_goals go_meet
      all_goals exact ⟨rfl, rfl⟩
    case rest =>
      obtain ⟨rfl, rfl⟩ := hcut
      cases hmb : !more || b2 with
      | true =>
        have hj := rjoined_any 5 .alt .alt v' (ps ++ [q]) w.heap.size _ HPT6.out HG6.out.kept.size (by rw [hpl]; have := HPL.out; omega)
        have HMB := Lib.hid hmb
        clear hmb
        go_wp2_with fail
        refine hj.mono ?_
        rintro e w7 ⟨⟨p, rfl, hp⟩, hbl⟩
        have HP := Lib.hid hp
        clear hp hj
        go_wp2_with fail
        go_ret
        refine ⟨p, a6, b2, rfl, HG6.out.below hbl, by omega, fun hb => ?_⟩
        have hmore : more = false := by
          have := HMB.out
          rw [hb, Bool.or_false] at this
          simpa using this
        obtain ⟨l, t, htr, hfu⟩ := HT5.out hb
        rcases HT6.out with ⟨h1, -, -⟩ | ⟨-, rfl, h3⟩
        · rw [hmore] at h1; cases h1
        · refine ⟨_, HP.out _ _ (htr.kept HK6.out fun k hk _ _ e => by omega), fun f hf => ?_⟩
          obtain ⟨g, hg, he⟩ := hfu f hf
          unfold branchesN
          rw [he, h3, strip_joinAlt]
          simp
      | false =>
        obtain ⟨rfl, rfl⟩ : more = true ∧ b2 = false := by
          have h1 := (Bool.or_eq_false_iff.1 hmb).1
          exact ⟨by simpa using h1, (Bool.or_eq_false_iff.1 hmb).2⟩
        clear hmb
        have hm := atOf_rf HI.out.go.rd
        have hm6 := atOf_rf HG6.out.rd
        have hk6s := HK6.out.size
        have hlt6 : a2 < a6 := by
          rcases HT6.out with ⟨-, h2, -⟩ | ⟨h1, -, -⟩
          · rw [h2]; simp
          · cases h1
        have hal6 := HG6.out.le.1
        go_wp2_with fail
        refine ⟨⟨ps ++ [q], a6, HPT6.out, HG6.out, by omega, by simp; omega, ?_⟩, ?_⟩
        · obtain ⟨l, t, htr, hfu⟩ := HT5.out rfl
          refine ⟨l ++ [t], (htr.kept HK6.out fun k hk _ _ e => by omega).up hk6s (Nat.le_refl _), fun f hf => ?_⟩
          obtain ⟨g, hg, he⟩ := hfu f hf
          refine ⟨g, by omega, ?_⟩
          rcases HT6.out with ⟨-, -, h3⟩ | ⟨h1, -, -⟩
          · rw [he]
            simp only [h3]
            rcases Rx.branches false g (s.drop a6) with _ | ⟨l9, s9⟩
            · simp
            · simp
          · cases h1
        · rw [hm, hm6]
          omega

end Go.Proofs.YthdkbbkkijdhfaaGreatDoor
