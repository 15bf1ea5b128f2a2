/-
  Texts of this seat put together: R14.
-/
import Derived.Test.YthdkbbkkijdhfaaGreatDoorH31
import Derived.Deep.RegionHeld3

/-
  The walk of the reference's atom, given branches's. Condition: what is told lies in memory.
-/
namespace Go.Proofs.YthdkbbkkijdhfaaGreatDoor
open Go.RowKit Go.Shelf Go.Maps

/-- A node of its own, new in memory. -/
theorem RtPost.new {w w1 w' : World} {r a2 lo : Nat} {s : Rx.Bytes} {ext b2 : Bool} {Q : Nat → Rx.Nd → Prop} {t : Rx.Nd} (G : GoR w w1 r s a2 ext b2) (hb : Below w1.heap.size w1 w') (hlo : lo ≤ a2) (hn : b2 = false → RtIn w' (fun b => w1.heap.size ≤ b ∧ b < w'.heap.size) w1.heap.size t) (hq : b2 = false → Q a2 t) :
    RtPost w r s lo ext Q (.returned (.pointer (some ⟨w1.heap.size, 0, none⟩))) w' := by
  have hs := G.kept.size
  exact ⟨_, a2, b2, rfl, G.below hb, hlo, fun h => ⟨t, (hn h).mono fun b hb => by omega, hq h⟩⟩

/-- A set, new in memory. -/
theorem RtIn.newSet {w w' : World} {h : Rx.Has} (hb : Blk w' w.heap.size (setCells h) 68) : RtIn w' (fun b => w.heap.size ≤ b ∧ b < w'.heap.size) w.heap.size (.set h) := .set ⟨Nat.le_refl _, hb.lt⟩ hb

theorem strip_one (t : Rx.Nd) : strip (.cat [t]) = strip t := by
  rw [strip_cat]
  rfl

/-- A node in parentheses: a list of it alone. -/
theorem RtIn.wrapped {wc : World} {M : Nat → Prop} {p B : Nat} {t : Rx.Nd} (hn : RtIn wc M p t) (hM : ∀ b, M b → B ≤ b ∧ b < wc.heap.size) (hB : B ≤ wc.heap.size) :
    RtIn ((wc.alloc (.cells #[.pointer (some ⟨p, 0, none⟩)] 24)).alloc (.cells (ndCells 4 noHas 0 0 (.slice (some ⟨wc.heap.size, 0, none⟩) 1 1)) 68))
      (fun b => B ≤ b ∧ b < ((wc.alloc (.cells #[.pointer (some ⟨p, 0, none⟩)] 24)).alloc (.cells (ndCells 4 noHas 0 0 (.slice (some ⟨wc.heap.size, 0, none⟩) 1 1)) 68)).heap.size) (wc.heap.size + 1) (.cat [t]) := by
  have hq := Blk.new wc #[.pointer (some ⟨p, 0, none⟩)] 24
  have hk1 : Kept (fun _ => False) wc (wc.alloc (.cells #[.pointer (some ⟨p, 0, none⟩)] 24)) := (Kept.refl _ _).alloc _
  have hsz : (wc.alloc (.cells #[.pointer (some ⟨p, 0, none⟩)] 24)).heap.size = wc.heap.size + 1 := by simp
  generalize wc.alloc (.cells #[.pointer (some ⟨p, 0, none⟩)] 24) = w3 at *
  have hb := Blk.new w3 (ndCells 4 noHas 0 0 (.slice (some ⟨wc.heap.size, 0, none⟩) 1 1)) 68
  have hk2 : Kept (fun _ => False) wc (w3.alloc (.cells (ndCells 4 noHas 0 0 (.slice (some ⟨wc.heap.size, 0, none⟩) 1 1)) 68)) := hk1.alloc _
  have hq2 := hq.alloc (.cells (ndCells 4 noHas 0 0 (.slice (some ⟨wc.heap.size, 0, none⟩) 1 1)) 68)
  have hsz2 : (w3.alloc (.cells (ndCells 4 noHas 0 0 (.slice (some ⟨wc.heap.size, 0, none⟩) 1 1)) 68)).heap.size = wc.heap.size + 2 := by simp [hsz]
  rw [hsz] at hb
  generalize w3.alloc (.cells (ndCells 4 noHas 0 0 (.slice (some ⟨wc.heap.size, 0, none⟩) 1 1)) 68) = w4 at *
  refine .cat (Ms := fun _ b => M b) (ps := [p]) (k := wc.heap.size) (l := [t]) (c := 1) ⟨by omega, by omega⟩ hb (Nat.zero_lt_one) (show 1 ≤ 1073741824 by decide) ⟨hB, by omega⟩ (by omega) rfl ⟨_, hq2, fun i hi => ?_⟩ (fun i hi b hb => ?_) fun i hi => ?_
  · obtain rfl : i = 0 := by simp at hi; exact hi
    rfl
  · have := hM b hb
    have hi0 : i = 0 := by simp at hi; exact hi
    exact ⟨⟨this.1, by omega⟩, by omega, by omega, fun j hj hne => by simp at hj; omega⟩
  · obtain rfl : i = 0 := by simp at hi; exact hi
    exact hn.kept hk2 fun _ _ h => h

theorem atom_paren {g : Nat} {u s1 s2 : Rx.Bytes} {n : Rx.Nd} (h : branchesN false g u = some (n, s1)) (ht : Rx.take [41] s1 = some s2) : Rx.atom false (g + 1) (40 :: u) = some (n, s2) := by
  unfold branchesN at h
  rw [Rx.atom]
  simp only [if_true]
  rcases hb : Rx.branches false g u with _ | ⟨l, s9⟩
  · rw [hb] at h; cases h
  · rw [hb] at h
    simp only [Option.map_some, Option.some.injEq, Prod.mk.injEq] at h
    obtain ⟨rfl, rfl⟩ := h
    simp only [ht, Option.map_some]

theorem atom_esc {g : Nat} {u : Rx.Bytes} {d : UInt8} (h : Rx.alnum d = false) : Rx.atom false (g + 1) (92 :: d :: u) = some (.set fun e => e == d, u) := by
  simp [Rx.atom, Rx.escaped, h, Rx.one, folds_false]

set_option maxHeartbeats 6400000 in
set_option maxRecDepth 100000 in
theorem ratom_any (L : Nat) (hB : ∀ L', L' < L → RBranchesC L') : RAtomC L := by
  intro r s a w hr hlt hl hL
  have G : GoR w w r s a true false := ⟨hr, Kept.refl _ _, by omega, hl⟩
  have c0 := hr.c0
  have c1 := hr.c1
  have f1 := hr.free 1
  obtain ⟨c, hx, i0⟩ := drop_at hlt
  have HX := Lib.hid hx
  have HB := Lib.hid (hB (L - 1) (by omega) r s (a + 1) _ (G.drew.setAt (a + 1) hlt).rd hlt hl (by omega))
  have hlti : (a : Int) < (s.length : Int) := by omega
  have HLT := Lib.hid (Blk.lt hr)
  clear hx hr hB
  go_enter Tryz.func59, Tryz.ntmps59
  go_wp2_with fail
  go_region
  have HG := Lib.hid (G.drew.setAt (a + 1) hlt)
  clear G c0
  go_upto_region 3 with fail
  show Code.wp _ _ _ _ (w.drew.setCell ⟨r, 1, none⟩ (.int .i64 ((a + 1 : Nat) : Int)))
  generalize w.drew.setCell ⟨r, 1, none⟩ (.int .i64 ((a + 1 : Nat) : Int)) = w1 at *
  clear c1 f1
  by_cases h40 : c = 40
  · subst h40
    have hb := HB.out
    go_wp2_with fail
    refine hb.mono ?_
    rintro e w2 ⟨p, a2, b2, rfl, G2, hlo, htree⟩
    have hc := rtakes_ans r s [41] a2 true false b2 w2 G2.rd G2.le.1 G2.le.2 (by decide)
    have HTREE := Lib.hid htree
    have HG2 := Lib.hid G2
    clear hb htree G2
    go_wp2_with fail
    refine hc.mono ?_
    rintro e w3 ⟨closed, a3, rfl, hr3, hk3, hl3, hal3, HT⟩
    clear hc
    have G3 := HG2.out.go hr3 hk3 hal3
    have c4 := G3.rd.c4
    have f4 := G3.rd.free 4
    have HK3 := Lib.hid hk3
    go_upto_if 30 with fail
    go_cut [5, 28, 29, 30, 31, 32, 33] (fun _s5 _s28 _s29 _s30 _s31 _s32 _s33 wx => ∃ b4, GoR w1 wx r s a3 true b4 ∧ Kept (· = r) w2 wx ∧ Hid (b4 = false → b2 = false ∧ closed = true))
    case first =>
      have H4 := Lib.hid (G3.setBad true)
      have H3 := Lib.hid G3
      clear G3 hk3 hr3 HT
      cases closed with
      | true =>
        go_wp2_with fail
        go_meet
        exact ⟨b2, H3.out, HK3.out, fun h => by simpa using h⟩
      | false =>
        go_wp2_with fail
        go_meet
        exact ⟨true, H4.out, HK3.out.setCell (.inl rfl) 4 _, fun h => by cases h⟩
    case rest =>
      obtain ⟨b4, G4, hk4, HB4⟩ := hcut
      clear G3 hr3 hk3 c4 f4
      go_wp2_with fail
      rw [rnd_new2]
      go_ret
      have hw12 := HG2.out.kept.size
      have hs4 := hk4.size
      have hs1 := HG.out.kept.size
      have hbl : Below wc.heap.size wc ((wc.alloc (.cells #[.pointer (some ⟨p, 0, none⟩)] 24)).alloc (.cells (ndCells 4 noHas 0 0 (.slice (some ⟨wc.heap.size, 0, none⟩) 1 1)) 68)) := (((Kept.refl (fun _ => False) wc).alloc _).alloc _).below
      have G5 : GoR w wc r s a3 true b4 := HG.out.go G4.rd G4.kept G4.le.1
      refine ⟨wc.heap.size + 1, a3, b4, rfl, G5.below hbl, by omega, fun h4 => ?_⟩
      obtain ⟨h2, hcl⟩ := HB4.out h4
      obtain ⟨t, hn, hq⟩ := HTREE.out h2
      refine ⟨.cat [t], RtIn.wrapped (hn.kept hk4 fun k hk e => by have := HLT.out; omega) (fun b hb => ⟨by omega, by omega⟩) (by omega), fun f hf => ?_⟩
      obtain ⟨g, rfl⟩ : ∃ g, f = g + 1 := ⟨f - 1, by omega⟩
      rcases HT.out with ⟨-, -, ht⟩ | ⟨h1, -, -⟩
      · rw [HX.out, atom_paren (hq g (by omega)) ht, strip_one]
      · rw [hcl] at h1; cases h1
  by_cases h91 : c = 91
  · subst h91
    have hb := rbracket_any r s (a + 1) true false _ HG.out.rd hlt hl
    go_wp2_with fail
    refine hb.mono ?_
    rintro e w2 ⟨a2, b2, hh, rfl, I, hlo, hal, -, hq⟩
    have HI := Lib.hid I
    have HQ := Lib.hid hq
    clear hb hq I
    go_wp2_with fail
    go_ret
    have hks := HG.out.kept.size
    have hI := HI.out
    refine ⟨w1.heap.size, a2, b2, rfl, HG.out.go hI.rd (hI.kept.trans' (Kept.refl _ _) (fun _ _ h => .inl h) |>.mono fun k hk h => by omega) hal, hlo, fun h => ⟨.set hh, .set ⟨hks, hI.nd.lt⟩ hI.nd, fun f hf => ?_⟩⟩
    obtain ⟨g, rfl⟩ : ∃ g, f = g + 1 := ⟨f - 1, by omega⟩
    rw [HX.out]
    simp [Rx.atom, HQ.out h, strip]
  by_cases h46 : c = 46
  · subst h46
    go_wp2_with fail
    refine (rany_any _).mono ?_
    rintro e w2 ⟨rfl, hb, hbl⟩
    have HBL := Lib.hid hbl
    have HBK := Lib.hid hb
    clear hb hbl
    go_wp2_with fail
    go_ret
    exact RtPost.new HG.out HBL.out (Nat.le_refl _) (fun _ => .newSet HBK.out) fun _ f hf => by
      obtain ⟨g, rfl⟩ : ∃ g, f = g + 1 := ⟨f - 1, by omega⟩
      rw [HX.out]
      simp [Rx.atom, Rx.dot, strip]
  by_cases h94 : c = 94
  · subst h94
    go_wp2_with fail
    rw [rnd_new]
    go_ret
    exact RtPost.new HG.out ((Below.refl _ _).alloc (Nat.le_refl _) _) (Nat.le_refl _) (fun _ => .beg ⟨Nat.le_refl _, by simp⟩ (Blk.new _ _ _)) fun _ f hf => by
      obtain ⟨g, rfl⟩ : ∃ g, f = g + 1 := ⟨f - 1, by omega⟩
      rw [HX.out]
      simp [Rx.atom, strip]
  by_cases h36 : c = 36
  · subst h36
    go_wp2_with fail
    rw [rnd_new]
    go_ret
    exact RtPost.new HG.out ((Below.refl _ _).alloc (Nat.le_refl _) _) (Nat.le_refl _) (fun _ => .fin ⟨Nat.le_refl _, by simp⟩ (Blk.new _ _ _)) fun _ f hf => by
      obtain ⟨g, rfl⟩ : ∃ g, f = g + 1 := ⟨f - 1, by omega⟩
      rw [HX.out]
      simp [Rx.atom, strip]
  by_cases h92 : c = 92
  · subst h92
    have c0 := HG.out.rd.c0
    have c1 := HG.out.rd.c1
    go_upto_region 19 with fail
    go_cut [55, 56, 57, 58, 59, 60, 61, 62, 63, 64, 65, 66, 67, 68, 69, 70, 71, 72, 73, 74, 75, 76, 77, 78, 79, 80, 81, 82, 83, 84, 85, 86, 87, 88, 89, 90, 91, 92, 93, 94, 95, 96, 97, 98, 99, 100] (fun _s55 _s56 _s57 _s58 _s59 _s60 _s61 _s62 _s63 _s64 _s65 _s66 _s67 _s68 _s69 _s70 _s71 _s72 _s73 _s74 _s75 _s76 _s77 _s78 _s79 _s80 _s81 _s82 _s83 _s84 _s85 _s86 _s87 _s88 _s89 _s90 _s91 _s92 _s93 _s94 _s95 _s96 _s97 _s98 _s99 s100 wx => ∃ bd : Bool, s100 = .bool bd ∧ GoR w wx r s (a + 1) true false ∧ Hid (bd = false → a + 1 < s.length ∧ ∃ d, (∀ h, (⟨s.toArray⟩ : ByteArray)[a + 1]'h = d) ∧ s.drop (a + 1) = d :: s.drop (a + 2) ∧ Rx.alnum d = false))
    case first =>
      by_cases he : a + 1 = s.length
      · have hei : (a : Int) + 1 = (s.length : Int) := by omega
        have hei3 : ((a : Int) + 1 == (s.length : Int)) = true := by simpa using hei
        go_wp2_with fail
        go_region
        go_wp2_with fail
        go_meet
        exact ⟨true, rfl, HG.out.drew, fun h => by cases h⟩
      · have hlt2 : a + 1 < s.length := by omega
        have hei3 : ((a : Int) + 1 == (s.length : Int)) = false := by simp; omega
        have hei4 : ((a : Int) + 1 = (s.length : Int)) = False := by simp; omega
        have hlti2 : (a : Int) + 1 < (s.length : Int) := by omega
        obtain ⟨d, hd, i1⟩ := drop_at hlt2
        have HD := Lib.hid hd
        have HI1 := Lib.hid i1
        have hlet := fun w => rletter_any d w
        have HAL : Hid (Rx.alnum d = (Rx.letter d || Rx.digit d)) := by show _ = _; rfl
        have HDG : Hid (Rx.digit d = (decide (48 ≤ d.toNat) && decide (d.toNat ≤ 57))) := by
          show _ = _
          unfold Rx.digit Rx.within
          rw [Bool.eq_iff_iff]
          simp only [Bool.and_eq_true, decide_eq_true_eq, UInt8.le_iff_toNat_le]
          exact Iff.rfl
        clear hd
        cases hlt3 : Rx.letter d with
        | true =>
          rw [hlt3] at hlet
          clear hlt3
          go_wp2_with fail
          go_quiet ((go_at_call 63; exact Calls.quiet_of_same (hlet _)))
          go_wp2_with fail
          go_meet
          exact ⟨true, rfl, HG.out.go (Blk.drewN HG.out.rd nq) (Kept.of_below (below_drewN (Below.refl _ _) _)) hlt, fun h => by cases h⟩
        | false =>
          rw [hlt3] at hlet HAL
          clear hlt3
          by_cases h1 : 48 ≤ d.toNat
          · by_cases h2 : d.toNat ≤ 57
            · have g1 : ((48 : Int) ≤ (d.toNat : Int)) = True := by simp; omega
              have g2 : ((d.toNat : Int) ≤ 57) = True := by simp; omega
              have g3 : decide ((48 : Int) ≤ (d.toNat : Int)) = true := by simp; omega
              clear h1 h2
              go_wp2_with fail
              go_quiet ((go_at_call 63; exact Calls.quiet_of_same (hlet _)))
              go_wp2_with fail
              go_meet
              exact ⟨true, rfl, HG.out.go (Blk.drewN HG.out.rd nq) (Kept.of_below (below_drewN (Below.refl _ _) _)) hlt, fun h => by cases h⟩
            · have g1 : ((48 : Int) ≤ (d.toNat : Int)) = True := by simp; omega
              have g2 : ((d.toNat : Int) ≤ 57) = False := by simp; omega
              have g3 : decide ((48 : Int) ≤ (d.toNat : Int)) = true := by simp; omega
              have HAL2 : Hid (Rx.alnum d = false) := by show _ = _; rw [HAL.out, HDG.out]; simp [h2]
              clear h1 h2
              go_wp2_with fail
              go_quiet ((go_at_call 63; exact Calls.quiet_of_same (hlet _)))
              go_wp2_with fail
              go_meet
              exact ⟨false, rfl, HG.out.go (Blk.drewN HG.out.rd nq) (Kept.of_below (below_drewN (Below.refl _ _) _)) hlt, fun _ => ⟨hlt2, d, HI1.out, HD.out, HAL2.out⟩⟩
          · have g1 : ((48 : Int) ≤ (d.toNat : Int)) = False := by simp; omega
            have g3 : decide ((48 : Int) ≤ (d.toNat : Int)) = false := by simp; omega
            have HAL2 : Hid (Rx.alnum d = false) := by show _ = _; rw [HAL.out, HDG.out]; simp [h1]
            clear h1
            go_wp2_with fail
            go_quiet ((go_at_call 63; exact Calls.quiet_of_same (hlet _)))
            go_wp2_with fail
            go_meet
            exact ⟨false, rfl, HG.out.go (Blk.drewN HG.out.rd nq) (Kept.of_below (below_drewN (Below.refl _ _) _)) hlt, fun _ => ⟨hlt2, d, HI1.out, HD.out, HAL2.out⟩⟩
    case rest =>
      obtain ⟨bd, rfl, G2, HBD⟩ := hcut
      clear c0 c1
      have HG2 := Lib.hid G2
      cases bd with
      | true =>
        have f4 := G2.rd.free 4
        have c4 := G2.rd.c4
        have HG3 := Lib.hid (G2.setBad true)
        clear G2
        go_wp2_with fail
        refine (rany_any _).mono ?_
        rintro e w5 ⟨rfl, hb, hbl⟩
        go_wp2_with fail
        go_ret
        exact ⟨_, a + 1, true, rfl, HG3.out.below hbl, Nat.le_refl _, fun h => by cases h⟩
      | false =>
        obtain ⟨hlt2, d, i1, hd, hal⟩ := HBD.out rfl
        have HD := Lib.hid hd
        have HAL := Lib.hid hal
        have HG3 := Lib.hid (G2.setAt (a + 2) hlt2)
        have c1 := G2.rd.c1
        have f1 := G2.rd.free 1
        clear hd hal G2 HBD
        go_upto_region 23 with fail
        show Code.wp _ _ _ _ (wc.setCell ⟨r, 1, none⟩ (.int .i64 ((a + 2 : Nat) : Int)))
        generalize wc.setCell ⟨r, 1, none⟩ (.int .i64 ((a + 2 : Nat) : Int)) = w4 at *
        clear c1 f1
        obtain ⟨b, hab⟩ : ∃ b, a + 2 = b := ⟨_, rfl⟩
        have hlb : b ≤ s.length := by omega
        have i2 : ∀ h, (⟨s.toArray⟩ : ByteArray)[b - 1]'h = d := by subst hab; exact i1
        rw [hab] at HG3 HD
        have c0 := HG3.out.rd.c0
        have c1 := HG3.out.rd.c1
        have hone := rone_any r d s b true false w4.drew (Blk.drew HG3.out.rd)
        have k0 : 1 ≤ b := by omega
        have k1 : (1 : Int) ≤ (b : Int) := by omega
        have k2 : IntKind.i64.wrap ((b : Int) - 1) = (b : Int) - 1 := by simp [IntKind.wrap, IntKind.signed, IntKind.bits]; omega
        have k3 : (0 : Int) ≤ (b : Int) - 1 := by omega
        have k4 : (b : Int) - 1 < (s.length : Int) := by omega
        have k5 : ((b : Int) - 1).toNat = b - 1 := by omega
        have k6 : b - 1 < s.length := by omega
        have hrlt := Blk.lt HG3.out.rd
        have HAB := Lib.hid hab
        clear hab i1
        go_region_held3 (fun w' => w'.cell? ⟨r, 0, none⟩ = some (.string ⟨s.toArray⟩) ∧ w'.cell? ⟨r, 1, none⟩ = some (.int .i64 b))
          (first | go_keep | (exact ⟨K0, K1⟩))
          ((go_at_call 64; refine hone.mono ?_; rintro e w5 ⟨rfl, hb5, hbl5⟩; have K0 : w5.cell? ⟨r, 0, none⟩ = some (.string ⟨s.toArray⟩) := (by rw [hbl5.cell (p := ⟨r, 0, none⟩) hrlt]; exact c0); have K1 : w5.cell? ⟨r, 1, none⟩ = some (.int .i64 b) := (by rw [hbl5.cell (p := ⟨r, 1, none⟩) hrlt]; exact c1)))
        have HB5 := Lib.hid hb5
        have HBL5 := Lib.hid hbl5
        clear K0 K1 c0 c1 hone hb5 hbl5
        go_wp2_with fail
        go_ret
        exact RtPost.new (w1 := w4.drew) (a2 := b) HG3.out.drew HBL5.out (by have := HAB.out; omega) (fun _ => .newSet HB5.out) fun _ f hf => by
          obtain ⟨g, rfl⟩ : ∃ g, f = g + 1 := ⟨f - 1, by omega⟩
          rw [HX.out, HD.out, atom_esc HAL.out]
          rfl
  by_cases h42 : c = 42
  · subst h42
    have f4 := HG.out.rd.free 4
    have c4 := HG.out.rd.c4
    have G2 := HG.out.setBad true
    have hone := rone_any r 42 s (a + 1) true true _ G2.rd
    have HG2 := Lib.hid G2
    clear G2
    go_wp2_with fail
    refine hone.mono ?_
    rintro e w5 ⟨rfl, hb, hbl⟩
    go_wp2_with fail
    go_ret
    exact ⟨_, a + 1, true, rfl, HG2.out.below hbl, Nat.le_refl _, fun h => by cases h⟩
  by_cases h43 : c = 43
  · subst h43
    have f4 := HG.out.rd.free 4
    have c4 := HG.out.rd.c4
    have G2 := HG.out.setBad true
    have hone := rone_any r 43 s (a + 1) true true _ G2.rd
    have HG2 := Lib.hid G2
    clear G2
    go_wp2_with fail
    refine hone.mono ?_
    rintro e w5 ⟨rfl, hb, hbl⟩
    go_wp2_with fail
    go_ret
    exact ⟨_, a + 1, true, rfl, HG2.out.below hbl, Nat.le_refl _, fun h => by cases h⟩
  by_cases h63 : c = 63
  · subst h63
    have f4 := HG.out.rd.free 4
    have c4 := HG.out.rd.c4
    have G2 := HG.out.setBad true
    have hone := rone_any r 63 s (a + 1) true true _ G2.rd
    have HG2 := Lib.hid G2
    clear G2
    go_wp2_with fail
    refine hone.mono ?_
    rintro e w5 ⟨rfl, hb, hbl⟩
    go_wp2_with fail
    go_ret
    exact ⟨_, a + 1, true, rfl, HG2.out.below hbl, Nat.le_refl _, fun h => by cases h⟩
  by_cases h123 : c = 123
  · subst h123
    have f4 := HG.out.rd.free 4
    have c4 := HG.out.rd.c4
    have G2 := HG.out.setBad true
    have hone := rone_any r 123 s (a + 1) true true _ G2.rd
    have HG2 := Lib.hid G2
    clear G2
    go_wp2_with fail
    refine hone.mono ?_
    rintro e w5 ⟨rfl, hb, hbl⟩
    go_wp2_with fail
    go_ret
    exact ⟨_, a + 1, true, rfl, HG2.out.below hbl, Nat.le_refl _, fun h => by cases h⟩
  have g40 : ¬ ((c.toNat : Int) = 40) := u8_ne h40
  have g91 : ¬ ((c.toNat : Int) = 91) := u8_ne h91
  have g46 : ¬ ((c.toNat : Int) = 46) := u8_ne h46
  have g94 : ¬ ((c.toNat : Int) = 94) := u8_ne h94
  have g36 : ¬ ((c.toNat : Int) = 36) := u8_ne h36
  have g92 : ¬ ((c.toNat : Int) = 92) := u8_ne h92
  have g42 : ¬ ((c.toNat : Int) = 42) := u8_ne h42
  have g43 : ¬ ((c.toNat : Int) = 43) := u8_ne h43
  have g63 : ¬ ((c.toNat : Int) = 63) := u8_ne h63
  have g123 : ¬ ((c.toNat : Int) = 123) := u8_ne h123
  have HAT : Hid (∀ g u, Rx.atom false (g + 1) (c :: u) = some (.set fun e => e == c, u)) := fun g u => by
    simp [Rx.atom, h40, h91, h46, h94, h36, h92, h42, h43, h63, h123, Rx.one, folds_false]
  clear h40 h91 h46 h94 h36 h92 h42 h43 h63 h123
  have hone := rone_any r c s (a + 1) true false w1 HG.out.rd
  go_wp2_with fail
  refine hone.mono ?_
  rintro e w5 ⟨rfl, hb, hbl⟩
  go_wp2_with fail
  go_ret
  exact RtPost.new HG.out hbl (Nat.le_refl _) (fun _ => .newSet hb) fun _ f hf => by
    obtain ⟨g, rfl⟩ : ∃ g, f = g + 1 := ⟨f - 1, by omega⟩
    rw [HX.out, HAT.out]
    rfl

end Go.Proofs.YthdkbbkkijdhfaaGreatDoor
