/-
  Texts of this seat put together: R12.
-/
import Derived.Test.YthdkbbkkijdhfaaGreatDoorH22
import Derived.Test.YthdkbbkkijdhfaaGreatDoorH10

/-
  The walks of the reference's branch (given atom's) and branches (given branch's). Condition: what is told lies in memory.
-/
namespace Go.Proofs.YthdkbbkkijdhfaaGreatDoor
open Go.RowKit Go.Shelf Go.Maps

/-- What a function of the reference's reader hands back and leaves: a tree, unless it says that it is bad. -/
def RtPost (w : World) (r : Nat) (s : Rx.Bytes) (lo : Nat) (ext : Bool) (Q : Nat → Rx.Nd → Prop) (e : Ending) (w' : World) : Prop := ∃ p a2 b2, e = .returned (.pointer (some ⟨p, 0, none⟩)) ∧ GoR w w' r s a2 ext b2 ∧ lo ≤ a2 ∧ (b2 = false → ∃ t, RtIn w' (fun b => w.heap.size ≤ b ∧ b < w'.heap.size) p t ∧ Q a2 t)

/-- What a round of a loop knows: all but the bytes' place. -/
def RAtomC (L : Nat) : Prop := ∀ (r : Nat) (s : Rx.Bytes) (a : Nat) (w : World), RfAt w r s a true false false → a < s.length → s.length < 1073741824 → s.length - a ≤ L →
  Calls Tryz.prog 59 #[.pointer (some ⟨r, 0, none⟩)] w fun e w' => RtPost w r s (a + 1) true (fun a2 t => ∀ f, 3 * (s.length - a) + 1 ≤ f → Rx.atom false f (s.drop a) = some (strip t, s.drop a2)) e w'
def RBranchC (L : Nat) : Prop := ∀ (r : Nat) (s : Rx.Bytes) (a : Nat) (w : World), RfAt w r s a true false false → a ≤ s.length → s.length < 1073741824 → s.length - a ≤ L →
  Calls Tryz.prog 43 #[.pointer (some ⟨r, 0, none⟩)] w fun e w' => RtPost w r s a true (fun a2 t => ∀ f, 3 * (s.length - a) + 2 ≤ f → branchN false f (s.drop a) = some (strip t, s.drop a2)) e w'
def RBranchesC (L : Nat) : Prop := ∀ (r : Nat) (s : Rx.Bytes) (a : Nat) (w : World), RfAt w r s a true false false → a ≤ s.length → s.length < 1073741824 → s.length - a ≤ L →
  Calls Tryz.prog 29 #[.pointer (some ⟨r, 0, none⟩)] w fun e w' => RtPost w r s a true (fun a2 t => ∀ f, 3 * (s.length - a) + 3 ≤ f → branchesN false f (s.drop a) = some (strip t, s.drop a2)) e w'

theorem GoR.pushed {w w3 w5 : World} {r : Nat} {s : Rx.Bytes} {a : Nat} {ext bad : Bool} {o : Obj} {v : Value} (G : GoR w w3 r s a ext bad) (hg : (w3.alloc o).grownBy w5 v.ownBlock) (hv : ∀ k, v.ownBlock = some k → w.heap.size ≤ k) (hr : r < w.heap.size) : GoR w w5 r s a ext bad := by
  have hk : Kept (fun b => v.ownBlock = some b) (w3.alloc o) w5 := ⟨hg.os, hg.tape, hg.output, hg.size, fun k hk hs => hg.block k hk (fun e => hs e.symm)⟩
  have hk2 : Kept (fun b => v.ownBlock = some b) w3 w5 := ((Kept.refl _ _).alloc o).trans hk
  refine ⟨G.rd.kept hk2 fun e => ?_, G.kept.pushed hg hv, G.le⟩
  have := hv r e
  omega

theorem info_rnode : (Tryz.prog.info? 24).map (fun i => (i.zero, i.size, i.bytes)) = some (some (.pointer none), 1, 8) := by kernel_rfl

/-- What the branch's loop keeps. -/
structure BrR (w wr : World) (r : Nat) (s : Rx.Bytes) (a a1 : Nat) (b1 : Bool) (v : Value) (ps : List Nat) : Prop where
  pts : PtsAt wr w.heap.size v ps
  go : GoR w wr r s a1 true b1
  le : a ≤ a1
  len : ps.length + (s.length - a1) ≤ s.length - a
  tr : b1 = false → ∃ l, TreesAt wr w.heap.size wr.heap.size v ps l ∧ ∀ f, 3 * (s.length - a) + 2 ≤ f → ∃ f', 3 * (s.length - a1) + 2 ≤ f' ∧ Rx.branch false f (s.drop a) = (Rx.branch false f' (s.drop a1)).map fun x => (l.map strip ++ x.1, x.2)

theorem branchOn_cons (c : UInt8) (t : Rx.Bytes) : branchOn (c :: t) = (c != 124 && c != 41) := rfl

theorem branchN_of {fold : Bool} {f : Nat} {s s' : Rx.Bytes} {l : List Rx.Nd} (h : Rx.branch fold f s = some (l, s')) (hn : l ≠ []) : branchN fold f s = some (Rx.joinN .cat l, s') := by
  unfold branchN
  rw [h]
  cases l with
  | nil => exact absurd rfl hn
  | cons x r => rfl

set_option maxHeartbeats 6400000 in
set_option maxRecDepth 100000 in
theorem rbranch_any (L : Nat) (hA : RAtomC L) : RBranchC L := by
  intro r s a w hr ha hl hL
  have hrlt := Blk.lt hr
  have I : BrR w w r s a a false (.slice none 0 0) [] := ⟨PtsAt.nil _ _, ⟨hr, Kept.refl _ _, ha, hl⟩, Nat.le_refl _, by simp, fun _ => ⟨[], TreesAt.nil _ _ (Nat.le_refl _), fun f hf => ⟨f, hf, by
    rcases Rx.branch false f (s.drop a) with _ | ⟨l, s'⟩ <;> rfl⟩⟩⟩
  have HA := Lib.hid hA
  clear hA hr
  obtain ⟨i0, hi, hz0, hz1, hz2⟩ := info_parts info_rnode
  go_enter Tryz.func43, Tryz.ntmps43
  go_wp2_with fail
  go_loopw [3, 4, 5, 6, 7, 8] (fun x3 _x4 _x5 _x6 _x7 _x8 wr => ∃ ps a1 b1, BrR w wr r s a a1 b1 x3 ps) (fun _ _ _ _ _ _ wr => s.length - atOf wr r)
  case atStart => exact ⟨_, _, _, I⟩
  case round =>
    clear I
    obtain ⟨ps, a1, b1, I⟩ := hrel
    have c0 := I.go.rd.c0
    have c1 := I.go.rd.c1
    have c4 := I.go.rd.c4
    have HI := Lib.hid I
    have hwr := I.go.kept.size
    clear I
    go_upto_region 2 with fail
    go_cut [9, 10, 11, 12, 13, 14, 15, 16, 17, 18, 19, 20, 21, 22, 23, 24, 25, 26, 27, 28, 29, 30, 31, 32, 33, 34, 35, 36, 37, 38, 39, 40, 41, 42, 43, 44, 45, 46, 47, 48, 49] (fun _s9 _s10 _s11 _s12 _s13 _s14 _s15 _s16 _s17 _s18 _s19 _s20 _s21 _s22 _s23 _s24 _s25 _s26 _s27 _s28 _s29 _s30 _s31 _s32 _s33 _s34 _s35 _s36 _s37 _s38 _s39 _s40 _s41 _s42 _s43 _s44 _s45 _s46 _s47 _s48 s49 wx => s49 = .bool (branchOn (s.drop a1) && !b1) ∧ wx = wr.drew)
    case first =>
      by_cases hlt : a1 < s.length
      · obtain ⟨x, hx, i0'⟩ := drop_at hlt
        have HO : Hid (branchOn (s.drop a1) = (x != 124 && x != 41)) := by show _ = _; rw [hx]; rfl
        have hlti : (a1 : Int) < (s.length : Int) := by omega
        clear hx
        by_cases h1 : x = 124
        · subst h1
          go_wp2_with fail
          go_region
          go_wp2_with fail
          go_meet
          exact ⟨by rw [HO.out]; rfl, rfl⟩
        · have g1 : ((x.toNat : Int) == 124) = false := u8_beqF h1
          have g2 : ((x.toNat : Int) != 124) = true := by unfold bne; rw [g1]; rfl
          have g3 : ((x.toNat : Int) = 124) = False := eq_false (u8_ne h1)
          by_cases h2 : x = 41
          · subst h2
            clear h1
            go_wp2_with fail
            go_region
            go_wp2_with fail
            go_meet
            exact ⟨by rw [HO.out]; rfl, rfl⟩
          · have k1 : ((x.toNat : Int) == 41) = false := u8_beqF h2
            have k2 : ((x.toNat : Int) != 41) = true := by unfold bne; rw [k1]; rfl
            have k3 : ((x.toNat : Int) = 41) = False := eq_false (u8_ne h2)
            have HO2 : Hid (branchOn (s.drop a1) = true) := by show _ = _; rw [HO.out]; simp [h1, h2]
            clear h1 h2 HO
            go_wp2_with fail
            go_region
            go_wp2_with fail
            go_meet
            exact ⟨by rw [HO2.out]; rfl, rfl⟩
      · have HO : Hid (branchOn (s.drop a1) = false) := by show _ = _; rw [List.drop_eq_nil_of_le (by omega)]; rfl
        have hf2 : ((a1 : Int) < (s.length : Int)) = False := by simp; omega
        have hf3 : decide ((a1 : Int) < (s.length : Int)) = false := by simp; omega
        go_wp2_with fail
        go_region
        go_wp2_with fail
        go_meet
        exact ⟨by rw [HO.out]; rfl, rfl⟩
    case rest =>
      obtain ⟨rfl, rfl⟩ := hcut
      clear c0 c1 c4
      cases hon : branchOn (s.drop a1) && !b1 with
      | false =>
        have G1 := HI.out.go.drew
        have HP1 := HI.out.pts.kept ((Kept.refl (fun _ => False) wr).drew) (fun _ _ h => h)
        have hlen := HI.out.len
        have f4 := G1.rd.free 4
        have c4 := G1.rd.c4
        rcases HP1.ex with ⟨rfl, rfl⟩ | ⟨k, c, rfl, hob, hc, hpos, -, -⟩
        · have G2 := G1.setBad true
          have hj := rjoined_any 4 .cat .cat _ [] w.heap.size _ (HP1.kept ((Kept.refl (· = r) _).setCell (.inl rfl) 4 (.bool true)) (fun k hk e => by omega)) G2.kept.size (by simp)
          clear hon
          go_wp2_with fail
          refine hj.mono ?_
          rintro e w2 ⟨⟨p, rfl, -⟩, hbl⟩
          go_wp2_with fail
          go_ret
          exact ⟨p, a1, true, rfl, G2.below hbl, HI.out.le, fun h => by cases h⟩
        · have hd0 : ¬ ((ps.length : Int) = 0) := by omega
          have hj := rjoined_any 4 .cat .cat _ ps w.heap.size _ HP1 G1.kept.size (by omega)
          have HON := Lib.hid hon
          clear hob hc hon
          go_wp2_with fail
          refine hj.mono ?_
          rintro e w2 ⟨⟨p, rfl, hp⟩, hbl⟩
          have HP2 := Lib.hid hp
          clear hp
          go_wp2_with fail
          go_ret
          refine ⟨p, a1, b1, rfl, G1.below hbl, HI.out.le, fun hb => ?_⟩
          obtain ⟨l, htr, hfu⟩ := HI.out.tr hb
          refine ⟨_, HP2.out _ l (htr.kept ((Kept.refl (fun _ => False) wr).drew) fun _ _ _ _ h => h), fun f hf => ?_⟩
          obtain ⟨f', hf', he⟩ := hfu f hf
          obtain ⟨g, rfl⟩ : ∃ g, f' = g + 1 := ⟨f' - 1, by omega⟩
          have hoff : branchOn (s.drop a1) = false := by
            have := HON.out
            rw [hb] at this
            simpa using this
          rw [branch_off hoff] at he
          simp only [Option.map_some, List.append_nil] at he
          rw [branchN_of he (by have h9 := htr.1; intro e; rw [List.map_eq_nil_iff] at e; rw [e] at h9; simp only [List.length_nil] at h9; omega), strip_joinCat]
      | true =>
        have hb1 : b1 = false := by cases b1 <;> simp_all
        subst hb1
        have hon1 : branchOn (s.drop a1) = true := by simpa using hon
        have hlt : a1 < s.length := by
          rcases Nat.lt_or_ge a1 s.length with h | h
          · exact h
          · rw [List.drop_eq_nil_of_le h] at hon1; cases hon1
        obtain ⟨c, hx, i0'⟩ := drop_at hlt
        obtain ⟨l, htr, hfu⟩ := HI.out.tr rfl
        have HFU : Hid (∀ f, 3 * (s.length - a) + 2 ≤ f → ∃ g, 3 * (s.length - a1) + 1 ≤ g ∧ Rx.branch false f (s.drop a) = (match Rx.atom false g (s.drop a1) with
            | none => none
            | some (x, s1) => match Rx.piece true x (c == 94 || c == 36) s1 with
              | none => none
              | some (p, s2) => (Rx.branch false g s2).map fun (x : List Rx.Nd × Rx.Bytes) => (p :: x.1, x.2)).map fun (x : List Rx.Nd × Rx.Bytes) => (l.map strip ++ x.1, x.2)) := by
          intro f hf
          obtain ⟨f', hf', he⟩ := hfu f hf
          obtain ⟨g, rfl⟩ : ∃ g, f' = g + 1 := ⟨f' - 1, by omega⟩
          refine ⟨g, by omega, ?_⟩
          rw [he, hx, branch_on (by rw [← hx]; exact hon1)]
          rfl
        have HTR := Lib.hid htr
        have hlti : (a1 : Int) < (s.length : Int) := by omega
        have G1 := HI.out.go.drew
        have c0 := G1.rd.c0
        have c1 := G1.rd.c1
        clear hon hon1 hx htr hfu
        go_upto_region 3 with fail
        go_cut [4, 50, 51, 52, 53, 54, 55, 56, 57, 58, 59, 60, 61, 62, 63, 64, 65, 66, 67, 68, 69, 70, 71] (fun s4 _s50 _s51 _s52 _s53 _s54 _s55 _s56 _s57 _s58 _s59 _s60 _s61 _s62 _s63 _s64 _s65 _s66 _s67 _s68 _s69 _s70 _s71 wx => s4 = .bool (c == 94 || c == 36) ∧ wx = wr.drew.drew)
        case first =>
          have HG := Lib.hid G1
          clear G1
          by_cases h1 : c = 94
          · subst h1
            go_wp2_with fail
            go_region
            go_wp2_with fail
            go_meet
            exact ⟨rfl, rfl⟩
          · have g1 : ((c.toNat : Int) == 94) = false := u8_beqF h1
            have g3 : ((c.toNat : Int) = 94) = False := eq_false (u8_ne h1)
            have H1 : Hid ((c == 94) = false) := by show _ = _; simpa using h1
            clear h1
            go_wp2_with fail
            go_region
            go_wp2_with fail
            go_meet
            refine ⟨congrArg Value.bool ?_, rfl⟩
            show ((c.toNat : Int) == 36) = (c == 94 || (c == 36))
            rw [H1.out, Bool.false_or]
            rw [u8_beq]; rfl
        case rest =>
          obtain ⟨rfl, rfl⟩ := hcut
          have G2 := G1.drew
          clear G1 c0 c1
          obtain ⟨an, han⟩ : ∃ an, (c == 94 || c == 36) = an := ⟨_, rfl⟩
          rw [han] at HFU ⊢
          clear han
          have hat := HA.out r s a1 _ G2.rd hlt hl (by have := HI.out.le; omega)
          go_wp2_with fail
          refine hat.mono ?_
          rintro e w2 ⟨p, a2, b2, rfl, G3, hlo, htree⟩
          have hkw2 : Kept (· = r) wr w2 := (Kept.refl (· = r) wr).drew.drew.trans G3.kept
          have G4 : GoR w w2 r s a2 true b2 := ⟨G3.rd, HI.out.go.kept.trans hkw2, G3.le⟩
          have HTREE : Hid (b2 = false → ∃ t, RtIn w2 (fun b => wr.heap.size ≤ b ∧ b < w2.heap.size) p t ∧ ∀ f, 3 * (s.length - a1) + 1 ≤ f → Rx.atom false f (s.drop a1) = some (strip t, s.drop a2)) := htree
          have hpt2 := HI.out.pts.kept hkw2 (fun k hk e => by omega)
          have HKW := Lib.hid hkw2
          have hlen := HI.out.len
          have hle1 := HI.out.le
          clear htree hat G2 G3 hkw2
          have c4 := G4.rd.c4
          cases b2 with
          | true =>
            have f4 := G4.rd.free 4
            have HG4 := Lib.hid G4
            rcases hpt2.ex with ⟨rfl, rfl⟩ | ⟨k, c9, rfl, hob, hc, hpos, -, -⟩
            · have G5 := G4.setBad true
              have hj := rjoined_any 4 .cat .cat _ [] w.heap.size _ (hpt2.kept ((Kept.refl (· = r) _).setCell (.inl rfl) 4 (.bool true)) (fun k hk e => by omega)) G5.kept.size (by simp)
              clear G4
              go_wp2_with fail
              refine hj.mono ?_
              rintro e w3 ⟨⟨p9, rfl, -⟩, hbl⟩
              go_wp2_with fail
              go_ret
              exact ⟨p9, a2, true, rfl, G5.below hbl, by omega, fun h => by cases h⟩
            · have hd0 : ¬ ((ps.length : Int) = 0) := by omega
              have hj := rjoined_any 4 .cat .cat _ ps w.heap.size _ hpt2 G4.kept.size (by omega)
              clear hob hc G4
              go_wp2_with fail
              refine hj.mono ?_
              rintro e w3 ⟨⟨p9, rfl, -⟩, hbl⟩
              go_wp2_with fail
              go_ret
              exact ⟨p9, a2, true, rfl, HG4.out.below hbl, by omega, fun h => by cases h⟩
          | false =>
            obtain ⟨t, hn, hq⟩ := HTREE.out rfl
            have HQ := Lib.hid hq
            have hrep := rrepeated_any r p s a2 true (fun b => wr.heap.size ≤ b ∧ b < w2.heap.size) t w2 G4.rd G4.le hn (fun b hb => by omega)
            have htm := rtimes_any r s a2 true false w2 G4.rd G4.le
            have HNT := Lib.hid hn
            have HG4 := Lib.hid G4
            have hws := HKW.out.size
            clear HTREE hq hpt2 hn G4
            go_upto_if 78 with fail
            go_cut [5, 6, 7, 8, 78, 79, 80, 81, 82, 83, 84, 85, 86, 87, 88, 89, 90, 91, 92, 93, 94, 95, 96, 97] (fun s5 _s6 _s7 _s8 _s78 _s79 _s80 _s81 _s82 _s83 _s84 _s85 _s86 _s87 _s88 _s89 _s90 _s91 _s92 _s93 _s94 _s95 _s96 _s97 wx => ∃ q a4 b4, s5 = .pointer (some ⟨q, 0, none⟩) ∧ GoR w wx r s a4 true b4 ∧ a2 ≤ a4 ∧ Kept (· = r) wr wx ∧ Hid (b4 = false → ∃ t2, RtIn wx (fun b => wr.heap.size ≤ b ∧ b < wx.heap.size) q t2 ∧ Rx.piece true (strip t) an (s.drop a2) = some (strip t2, s.drop a4)))
            case first =>
              cases an with
              | true =>
                clear hrep
                go_wp2_with fail
                refine htm.mono ?_
                rintro e w3 ⟨m, n, twice, a3, b3, rfl, G5', hl3, -, ht3⟩
                have G5 := HG4.out.go G5'.rd G5'.kept G5'.le.1
                have HT3 := Lib.hid ht3
                have hkw3 := G5'.kept
                clear htm c4 G5' ht3
                have c4 := G5.rd.c4
                have f4 := G5.rd.free 4
                have HG := Lib.hid (G5.setBad (b3 || twice))
                have HQ4 : Hid ((b3 || twice) = false → ∃ t2, RtIn (w3.setCell ⟨r, 4, none⟩ (.bool (b3 || twice))) (fun b => wr.heap.size ≤ b ∧ b < (w3.setCell ⟨r, 4, none⟩ (.bool (b3 || twice))).heap.size) p t2 ∧ Rx.piece true (strip t) true (s.drop a2) = some (strip t2, s.drop a3)) := by
                  intro h
                  have hks : Kept (· = r) w2 (w3.setCell ⟨r, 4, none⟩ (.bool (b3 || twice))) := hkw3.setCell (.inl rfl) 4 _
                  have hks2 := hks.size
                  refine ⟨t, (HNT.out.kept hks fun k hk e => by omega).mono fun b hb => by omega, ?_⟩
                  rcases HT3.out (Bool.or_eq_false_iff.1 h).1 with ⟨-, h2⟩ | ⟨h2, -⟩
                  · unfold Rx.piece
                    rw [h2]
                  · rw [(Bool.or_eq_false_iff.1 h).2] at h2; cases h2
                clear G5 HT3
                cases b3 <;> cases twice
                all_goals go_wp2_with fail
                all_goals go_meet
                all_goals exact ⟨p, a3, _, rfl, HG.out, hl3, (HKW.out.trans hkw3).setCell (.inl rfl) 4 _, HQ4⟩
              | false =>
                clear htm
                go_wp2_with fail
                refine hrep.mono ?_
                rintro e w3 ⟨p2, a3, b3, rfl, G5, hl3, ht3⟩
                have HT3 := Lib.hid ht3
                clear ht3 hrep
                go_wp2_with fail
                go_meet
                have hk3 := G5.kept.size
                refine ⟨p2, a3, b3, rfl, HG4.out.go G5.rd G5.kept G5.le.1, hl3, HKW.out.trans G5.kept, fun hb3 => ?_⟩
                obtain ⟨t2, x1, x2, -⟩ := HT3.out hb3
                exact ⟨t2, x1.mono fun b hb => by omega, x2⟩
            case rest =>
              obtain ⟨q, a4, b4, rfl, G8, hl4, hk8, HT4⟩ := hcut
              have HPT := Lib.hid (HI.out.pts.kept hk8 (fun k hk e => by omega))
              have HPL : Hid (ps.length + 1 < 1073741825) := by show _ < _; omega
              have HK8 := Lib.hid hk8
              have HG8 := Lib.hid G8
              have hw8 := G8.kept.size
              clear hrep htm hk8 G8 c4
              have hown := HPT.out.own
              have hob : ∀ k, u3.ownBlock = some k → w.heap.size ≤ k := fun k e => (hown.lt k e).1
              have HOB := Lib.hid hob
              clear hob
              go_wp2_with (at_builtin; refine wpList_append_own_at _ rfl _ _ 66 rfl w.heap.size 24 i0 (.pointer none) 1 8 Tryz.underlying66 hi hz0 hz1 hz2 rfl (by decide) _ _ _ rfl (hown.alloc _) ⟨wc.heap.size, 0, none⟩ 1 1 [ptrV q] rfl rfl (cell_one_new _ _ _) (by simp [ptrV, Value.oneCell']) (by unfold maxLen; omega) (by have := HPL.out; omega) (by simp; omega) ?_; intro v' w5 hown' hgrow _ hv')
              have hgrow : (wc.alloc (.cells #[ptrV q] 24)).grownBy w5 u3.ownBlock := hgrow
              have hv' : v'.ownBlock = u3.ownBlock ∨ v'.ownBlock = some (wc.alloc (.cells #[ptrV q] 24)).heap.size := hv'
              have hlt2 := HI.out.pts.own.lt
              have G9 := HG8.out.pushed hgrow HOB.out hrlt
              have hs8 := HK8.out.size
              have hs9 : wc.heap.size ≤ w5.heap.size := by
                have h1 := hgrow.size
                have h2 : (wc.alloc (.cells #[ptrV q] 24)).heap.size = wc.heap.size + 1 := by simp
                omega
              refine ⟨⟨ps ++ [q], a4, b4, PtsAt.push hown', G9, by omega, by simp; omega, fun hb4 => ?_⟩, ?_⟩
              · obtain ⟨t2, hn2, hp2⟩ := HT4.out hb4
                refine ⟨l ++ [t2], ((HTR.out.kept HK8.out fun k hk _ _ e => by omega).push (H' := wc.heap.size) hn2 (fun b hb => ⟨hb.1, hb.2, by omega, fun e => by have := (hlt2 b e).2; omega⟩) hs8 (Nat.le_refl _) hgrow hv').up hs9 (Nat.le_refl _), fun f hf => ?_⟩
                obtain ⟨g, hg, he⟩ := HFU.out f hf
                refine ⟨g, by omega, ?_⟩
                rw [he, HQ.out g hg]
                simp only [hp2]
                rcases Rx.branch false g (s.drop a4) with _ | ⟨l9, s9⟩
                · rfl
                · simp
              · have hm := atOf_rf HI.out.go.rd
                have hm5 := atOf_rf G9.rd
                rw [hm, hm5]
                omega

end Go.Proofs.YthdkbbkkijdhfaaGreatDoor
