/-
  Texts of this seat put together: R15, R16.
-/
import Derived.Test.YthdkbbkkijdhfaaGreatDoorH32
import Derived.Test.YthdkbbkkijdhfaaGreatDoorH11

/-
  The walk of the reference's plain, given pieces's. Condition: what is told lies in memory.
-/
namespace Go.Proofs.YthdkbbkkijdhfaaGreatDoor
open Go.RowKit Go.Shelf Go.Maps

def RPlainC (L : Nat) : Prop := ∀ (r : Nat) (s : Rx.Bytes) (a : Nat) (w : World), RfAt w r s a false false false → a < s.length → s.length < 1073741824 → s.length - a ≤ L →
  Calls Tryz.prog 47 #[.pointer (some ⟨r, 0, none⟩)] w fun e w' => RtPost w r s (a + 1) false (fun a2 t => t ≠ .beg ∧ ∀ f, 3 * (s.length - a) + 1 ≤ f → Rx.plain false f (s.drop a) = some (strip t, s.drop a2)) e w'
def RPiecesC (L : Nat) : Prop := ∀ (r : Nat) (s : Rx.Bytes) (a : Nat) (w : World), RfAt w r s a false false false → a ≤ s.length → s.length < 1073741824 → s.length - a ≤ L →
  Calls Tryz.prog 30 #[.pointer (some ⟨r, 0, none⟩)] w fun e w' => RtPost w r s a false (fun a2 t => ∀ f, 3 * (s.length - a) + 3 ≤ f → Rx.basic false f (s.drop a) = some (strip t, s.drop a2)) e w'

theorem plain_paren {g : Nat} {u s1 s2 : Rx.Bytes} {n : Rx.Nd} (h : Rx.basic false g u = some (n, s1)) (ht : Rx.take [92, 41] s1 = some s2) : Rx.plain false (g + 1) (92 :: 40 :: u) = some (n, s2) := by
  rw [plain_step]
  unfold plainStep
  have : Rx.take [92, 40] (92 :: 40 :: u) = some u := by simp [Rx.take]
  rw [this]
  simp only [h, ht, Option.map_some]
theorem plain_esc {g : Nat} {u : Rx.Bytes} {d : UInt8} (h : d ≠ 40) (ha : (Rx.alnum d || ([41, 123, 125] : Rx.Bytes).contains d) = false) : Rx.plain false (g + 1) (92 :: d :: u) = some (.set fun e => e == d, u) := by
  rw [plain_step]
  unfold plainStep
  have h1 : Rx.take [92, 40] (92 :: d :: u) = none := by
    simp [Rx.take]
    exact fun e => h e.symm
  have h2 : Rx.take [91] (92 :: d :: u) = none := by simp [Rx.take]
  have h3 : Rx.take [46] (92 :: d :: u) = none := by simp [Rx.take]
  have h4 : Rx.take [92] (92 :: d :: u) = some (d :: u) := by simp [Rx.take]
  simp only [h1, h2, h3, h4]
  unfold Rx.escaped
  simp only [ha, Rx.one, folds_false]
  rfl
theorem plain_bracket (g : Nat) (u : Rx.Bytes) : Rx.plain false (g + 1) (91 :: u) = Rx.bracket false u := by
  rw [plain_step]
  unfold plainStep
  have h1 : Rx.take [92, 40] (91 :: u) = none := by simp [Rx.take]
  have h2 : Rx.take [91] (91 :: u) = some u := by simp [Rx.take]
  simp only [h1, h2]
theorem plain_dot (g : Nat) (u : Rx.Bytes) : Rx.plain false (g + 1) (46 :: u) = some (Rx.dot, u) := by
  rw [plain_step]
  unfold plainStep
  have h1 : Rx.take [92, 40] (46 :: u) = none := by simp [Rx.take]
  have h2 : Rx.take [91] (46 :: u) = none := by simp [Rx.take]
  have h3 : Rx.take [46] (46 :: u) = some u := by simp [Rx.take]
  simp only [h1, h2, h3]
theorem plain_one {c : UInt8} (h91 : c ≠ 91) (h46 : c ≠ 46) (h92 : c ≠ 92) (g : Nat) (u : Rx.Bytes) : Rx.plain false (g + 1) (c :: u) = some (.set fun e => e == c, u) := by
  rw [plain_step]
  unfold plainStep
  have h1 : Rx.take [92, 40] (c :: u) = none := by simp [Rx.take, Ne.symm h92]
  have h2 : Rx.take [91] (c :: u) = none := by simp [Rx.take, Ne.symm h91]
  have h3 : Rx.take [46] (c :: u) = none := by simp [Rx.take, Ne.symm h46]
  have h4 : Rx.take [92] (c :: u) = none := by simp [Rx.take, Ne.symm h92]
  simp only [h1, h2, h3, h4, Rx.one, folds_false]

set_option maxHeartbeats 6400000 in
set_option maxRecDepth 100000 in
/-- .. of a star, whatever bad is. -/
theorem rplain_star (r : Nat) (s : Rx.Bytes) (a : Nat) (bad : Bool) (w : World) (hr : RfAt w r s a false false bad) (hlt : a < s.length) (hl : s.length < 1073741824) (h42 : ∀ h, (⟨s.toArray⟩ : ByteArray)[a]'h = 42) :
    Calls Tryz.prog 47 #[.pointer (some ⟨r, 0, none⟩)] w fun e w' => ∃ p, e = .returned (.pointer (some ⟨p, 0, none⟩)) ∧ GoR w w' r s (a + 1) false bad := by
  have G : GoR w w r s a false bad := ⟨hr, Kept.refl _ _, by omega, hl⟩
  have c0 := hr.c0
  have c1 := hr.c1
  have f1 := hr.free 1
  have hlti : (a : Int) < (s.length : Int) := by omega
  clear hr
  go_enter Tryz.func47, Tryz.ntmps47
  go_wp2_with fail
  go_region
  have HG := Lib.hid (G.drew.setAt (a + 1) hlt)
  clear G c0
  go_upto_region 3 with fail
  show Code.wp _ _ _ _ (w.drew.setCell ⟨r, 1, none⟩ (.int .i64 ((a + 1 : Nat) : Int)))
  generalize w.drew.setCell ⟨r, 1, none⟩ (.int .i64 ((a + 1 : Nat) : Int)) = w1 at *
  clear c1 f1
  have hone := rone_any r 42 s (a + 1) false bad w1 HG.out.rd
  go_wp2_with fail
  refine hone.mono ?_
  rintro e w5 ⟨rfl, hb, hbl⟩
  go_wp2_with fail
  go_ret
  exact ⟨_, rfl, HG.out.below hbl⟩

set_option maxHeartbeats 6400000 in
set_option maxRecDepth 100000 in
theorem rplain_any (L : Nat) (hB : ∀ L', L' < L → RPiecesC L') : RPlainC L := by
  intro r s a w hr hlt hl hL
  have G : GoR w w r s a false false := ⟨hr, Kept.refl _ _, by omega, hl⟩
  have c0 := hr.c0
  have c1 := hr.c1
  have f1 := hr.free 1
  obtain ⟨c, hx, i0⟩ := drop_at hlt
  have HX := Lib.hid hx
  have HB := Lib.hid hB
  have hlti : (a : Int) < (s.length : Int) := by omega
  have HLT := Lib.hid (Blk.lt hr)
  clear hx hr hB
  go_enter Tryz.func47, Tryz.ntmps47
  go_wp2_with fail
  go_region
  have HG := Lib.hid (G.drew.setAt (a + 1) hlt)
  clear G c0
  go_upto_region 3 with fail
  show Code.wp _ _ _ _ (w.drew.setCell ⟨r, 1, none⟩ (.int .i64 ((a + 1 : Nat) : Int)))
  generalize w.drew.setCell ⟨r, 1, none⟩ (.int .i64 ((a + 1 : Nat) : Int)) = w1 at *
  clear c1 f1
  by_cases h91 : c = 91
  · subst h91
    have hb := rbracket_any r s (a + 1) false false _ HG.out.rd hlt hl
    go_wp2_with fail
    refine hb.mono ?_
    rintro e w2 ⟨a2, b2, hh, rfl, I, hlo, hal, -, hq⟩
    have HI := Lib.hid I
    have HQ := Lib.hid hq
    clear hb hq I
    go_wp2_with fail
    go_ret
    have hks := HG.out.kept.size
    have hI := HI.out
    refine ⟨w1.heap.size, a2, b2, rfl, HG.out.go hI.rd (hI.kept.trans' (Kept.refl _ _) (fun _ _ h => .inl h) |>.mono fun k hk h => by omega) hal, hlo, fun h => ⟨.set hh, .set ⟨hks, hI.nd.lt⟩ hI.nd, (fun e => by cases e), fun f hf => ?_⟩⟩
    obtain ⟨g, rfl⟩ : ∃ g, f = g + 1 := ⟨f - 1, by omega⟩
    rw [HX.out, plain_bracket, HQ.out h]
    rfl
  by_cases h46 : c = 46
  · subst h46
    go_wp2_with fail
    refine (rany_any _).mono ?_
    rintro e w2 ⟨rfl, hb, hbl⟩
    have HBL := Lib.hid hbl
    have HBK := Lib.hid hb
    clear hb hbl
    go_wp2_with fail
    go_ret
    exact RtPost.new HG.out HBL.out (Nat.le_refl _) (fun _ => .newSet HBK.out) fun _ => ⟨(fun e => by cases e), fun f hf => by
      obtain ⟨g, rfl⟩ : ∃ g, f = g + 1 := ⟨f - 1, by omega⟩
      rw [HX.out, plain_dot]
      rfl⟩
  by_cases h92 : c = 92
  · subst h92
    have c0 := HG.out.rd.c0
    have c1 := HG.out.rd.c1
    clear h91 h46
    by_cases he : a + 1 = s.length
    · have hei : (a : Int) + 1 = (s.length : Int) := by omega
      have hei3 : ((a : Int) + 1 == (s.length : Int)) = true := by simpa using hei
      have HG2 := Lib.hid HG.out.drew
      have f4 := HG2.out.rd.free 4
      have c4 := HG2.out.rd.c4
      go_wp2_with fail
      go_region
      have HG3 := Lib.hid (HG2.out.setBad true)
      clear HG HG2
      go_wp2_with fail
      refine (rany_any _).mono ?_
      rintro e w5 ⟨rfl, hb, hbl⟩
      go_wp2_with fail
      go_ret
      exact ⟨_, a + 1, true, rfl, HG3.out.below hbl, Nat.le_refl _, fun h => by cases h⟩
    · have hlt2 : a + 1 < s.length := by omega
      have hei3 : ((a : Int) + 1 == (s.length : Int)) = false := by simp; omega
      have hei4 : ((a : Int) + 1 = (s.length : Int)) = False := by simp; omega
      have hlti2 : (a : Int) + 1 < (s.length : Int) := by omega
      obtain ⟨d, hd, i1⟩ := drop_at hlt2
      have HD := Lib.hid hd
      clear hd
      go_wp2_with fail
      go_region
      go_wp2_with fail
      go_region
      have HG4 := Lib.hid (HG.out.drew.drew.setAt (a + 2) hlt2)
      have f1 := HG.out.rd.free 1
      clear HG c0
      go_upto_region 14 with fail
      show Code.wp _ _ _ _ (w1.drew.drew.setCell ⟨r, 1, none⟩ (.int .i64 ((a + 2 : Nat) : Int)))
      generalize w1.drew.drew.setCell ⟨r, 1, none⟩ (.int .i64 ((a + 2 : Nat) : Int)) = w4 at *
      clear c1 f1 w1
      by_cases h40 : d = 40
      · subst h40
        have hb := HB.out (L - 1) (by omega) r s (a + 2) w4 HG4.out.rd hlt2 hl (by omega)
        go_wp2_with fail
        refine hb.mono ?_
        rintro e w2 ⟨p, a2, b2, rfl, G2, hlo, htree⟩
        have hc := rtakes_ans r s [92, 41] a2 false false b2 w2 G2.rd G2.le.1 G2.le.2 (by decide)
        have HTREE := Lib.hid htree
        have HG2 := Lib.hid G2
        clear hb htree G2
        go_wp2_with fail
        refine hc.mono ?_
        rintro e w3 ⟨closed, a3, rfl, hr3, hk3, hl3, hal3, HT⟩
        clear hc
        have G3 := HG2.out.go hr3 hk3 hal3
        have c4 := G3.rd.c4
        have f4 := G3.rd.free 4
        have HK3 := Lib.hid hk3
        go_upto_if 70 with fail
        go_cut [6, 68, 69, 70, 71, 72, 73] (fun _s6 _s68 _s69 _s70 _s71 _s72 _s73 wx => ∃ b4, GoR w4 wx r s a3 false b4 ∧ Kept (· = r) w2 wx ∧ Hid (b4 = false → b2 = false ∧ closed = true))
        case first =>
          have H4 := Lib.hid (G3.setBad true)
          have H3 := Lib.hid G3
          clear G3 hk3 hr3 HT
          cases closed with
          | true =>
            go_wp2_with fail
            go_meet
            exact ⟨b2, H3.out, HK3.out, fun h => by simpa using h⟩
          | false =>
            go_wp2_with fail
            go_meet
            exact ⟨true, H4.out, HK3.out.setCell (.inl rfl) 4 _, fun h => by cases h⟩
        case rest =>
          obtain ⟨b4, G4, hk4, HB4⟩ := hcut
          clear G3 hr3 hk3 c4 f4
          go_wp2_with fail
          rw [rnd_new2]
          go_ret
          have hw12 := HG2.out.kept.size
          have hs4 := hk4.size
          have hs1 := HG4.out.kept.size
          have hbl : Below wc.heap.size wc ((wc.alloc (.cells #[.pointer (some ⟨p, 0, none⟩)] 24)).alloc (.cells (ndCells 4 noHas 0 0 (.slice (some ⟨wc.heap.size, 0, none⟩) 1 1)) 68)) := (((Kept.refl (fun _ => False) wc).alloc _).alloc _).below
          have G5 : GoR w wc r s a3 false b4 := HG4.out.go G4.rd G4.kept G4.le.1
          refine ⟨wc.heap.size + 1, a3, b4, rfl, G5.below hbl, by omega, fun h4 => ?_⟩
          obtain ⟨h2, hcl⟩ := HB4.out h4
          obtain ⟨t, hn, hq⟩ := HTREE.out h2
          refine ⟨.cat [t], RtIn.wrapped (hn.kept hk4 fun k hk e => by have := HLT.out; omega) (fun b hb => ⟨by omega, by omega⟩) (by omega), (fun e => by cases e), fun f hf => ?_⟩
          obtain ⟨g, rfl⟩ : ∃ g, f = g + 1 := ⟨f - 1, by omega⟩
          rcases HT.out with ⟨-, -, ht⟩ | ⟨h1, -, -⟩
          · rw [HX.out, HD.out, plain_paren (hq g (by omega)) ht, strip_one]
          · rw [hcl] at h1; cases h1
      · have g40 : ¬ ((d.toNat : Int) = 40) := u8_ne h40
        have H40 := Lib.hid h40
        clear h40
        have hlet := rletter_any d w4
        obtain ⟨LT, hLT⟩ : ∃ x, Rx.letter d = x := ⟨_, rfl⟩
        rw [hLT] at hlet
        obtain ⟨BD, hBD⟩ : ∃ x, (Rx.alnum d || ([41, 123, 125] : Rx.Bytes).contains d) = x := ⟨_, rfl⟩
        have HBD : Hid (BD = (LT || (decide (48 ≤ d.toNat) && decide (d.toNat ≤ 57)) || (decide (d.toNat = 41) || (decide (d.toNat = 123) || decide (d.toNat = 125))))) := by
          show _ = _
          rw [← hBD, ← hLT]
          have e1 : Rx.alnum d = (Rx.letter d || (decide (48 ≤ d.toNat) && decide (d.toNat ≤ 57))) := by
            unfold Rx.alnum Rx.digit Rx.within
            congr 1
          have e2 : ∀ k : UInt8, (d == k) = decide (d.toNat = k.toNat) := fun k => by
            rw [Bool.eq_iff_iff, beq_iff_eq, decide_eq_true_eq]
            exact ⟨fun h => by rw [h], fun h => UInt8.toNat_inj.1 h⟩
          rw [e1]
          simp only [List.contains_cons, List.contains_nil, Bool.or_false, e2]
          rfl
        have HBD0 := Lib.hid hBD
        clear hLT hBD
        go_upto_region 20 with fail
        go_cut [4, 55, 78, 79, 80, 81, 82, 83, 84, 85, 86, 87, 88, 89, 90, 91, 92, 93, 94, 95, 96, 97, 98, 99] (fun s4 _s55 _s78 _s79 _s80 _s81 _s82 _s83 _s84 _s85 _s86 _s87 _s88 _s89 _s90 _s91 _s92 _s93 _s94 _s95 _s96 _s97 _s98 s99 wx => s99 = .bool BD ∧ s4 = .int .u8 d.toNat ∧ wx = w4)
        case first =>
          go_wp2_with fail
          refine hlet.mono ?_
          rintro e w5 ⟨rfl, rfl⟩
          clear hlet
          generalize d.toNat = n at *
          go_wp2_with fail
          all_goals go_meet
          all_goals
            refine ⟨congrArg Value.bool ?_, (by first | rfl | (simp [*])), rfl⟩
            rw [HBD.out]
            first | (simp [*]; done) | (simp [*]; omega) | (rw [Bool.eq_iff_iff]; simp [*]; done) | (rw [Bool.eq_iff_iff]; simp [*]; omega)
        case rest =>
          obtain ⟨rfl, rfl, rfl⟩ := hcut
          clear hlet
          cases BD with
          | true =>
            have f4 := HG4.out.rd.free 4
            have c4 := HG4.out.rd.c4
            have G5 := HG4.out.setBad true
            have hone := rone_any r d s (a + 2) false true _ G5.rd
            have HG5 := Lib.hid G5
            clear G5
            go_wp2_with fail
            refine hone.mono ?_
            rintro e w5 ⟨rfl, hb, hbl⟩
            go_wp2_with fail
            go_ret
            exact ⟨_, a + 2, true, rfl, HG5.out.below hbl, by omega, fun h => by cases h⟩
          | false =>
            have hone := rone_any r d s (a + 2) false false _ HG4.out.rd
            go_wp2_with fail
            refine hone.mono ?_
            rintro e w5 ⟨rfl, hb, hbl⟩
            go_wp2_with fail
            go_ret
            exact RtPost.new HG4.out hbl (by omega) (fun _ => .newSet hb) fun _ => ⟨(fun e => by cases e), fun f hf => by
              obtain ⟨g, rfl⟩ : ∃ g, f = g + 1 := ⟨f - 1, by omega⟩
              rw [HX.out, HD.out, plain_esc H40.out HBD0.out]
              rfl⟩
  have HAT : Hid (∀ g u, Rx.plain false (g + 1) (c :: u) = some (.set fun e => e == c, u)) := plain_one h91 h46 h92
  have g91 : ¬ ((c.toNat : Int) = 91) := u8_ne h91
  have g46 : ¬ ((c.toNat : Int) = 46) := u8_ne h46
  have g92 : ¬ ((c.toNat : Int) = 92) := u8_ne h92
  clear h91 h46 h92
  have hone := rone_any r c s (a + 1) false false w1 HG.out.rd
  go_wp2_with fail
  refine hone.mono ?_
  rintro e w5 ⟨rfl, hb, hbl⟩
  go_wp2_with fail
  go_ret
  exact RtPost.new HG.out hbl (Nat.le_refl _) (fun _ => .newSet hb) fun _ => ⟨(fun e => by cases e), fun f hf => by
    obtain ⟨g, rfl⟩ : ∃ g, f = g + 1 := ⟨f - 1, by omega⟩
    rw [HX.out, HAT.out]
    rfl⟩

end Go.Proofs.YthdkbbkkijdhfaaGreatDoor

/-
  What the loop of the reference's pieces keeps; behind the append of a new node. No condition.
-/
namespace Go.Proofs.YthdkbbkkijdhfaaGreatDoor
open Go.RowKit Go.Shelf Go.Maps

theorem basic_step (f : Nat) (s : Rx.Bytes) : Rx.basic false (f + 1) s = match Rx.take [94] s with
    | some r => (Rx.pieces false f true r).map fun (x : List Rx.Nd × Rx.Bytes) => (Rx.joinN .cat (.beg :: x.1), x.2)
    | none => (Rx.pieces false f true s).map fun (x : List Rx.Nd × Rx.Bytes) => (Rx.joinN .cat x.1, x.2) := by
  rw [Rx.basic.eq_def]
  rfl

/-- What has been read, and what is to come. -/
def EQp (s : Rx.Bytes) (a a1 : Nat) (l : List Rx.Nd) (free : Bool) : Prop := ∀ f, 3 * (s.length - a) + 3 ≤ f → ∃ f', 3 * (s.length - a1) + 2 ≤ f' ∧ Rx.basic false f (s.drop a) = (Rx.pieces false f' free (s.drop a1)).map fun (x : List Rx.Nd × Rx.Bytes) => (Rx.joinN .cat (l.map strip ++ x.1), x.2)

theorem EQp.start {s : Rx.Bytes} {a : Nat} (h : (s.drop a).head? ≠ some 94) : EQp s a a [] true := by
  intro f hf
  obtain ⟨g, rfl⟩ : ∃ g, f = g + 1 := ⟨f - 1, by omega⟩
  refine ⟨g, by omega, ?_⟩
  rw [basic_step, take_not h]
  rfl
theorem EQp.begin {s : Rx.Bytes} {a : Nat} (h : s.drop a = 94 :: s.drop (a + 1)) : EQp s a (a + 1) [.beg] true := by
  intro f hf
  obtain ⟨g, rfl⟩ : ∃ g, f = g + 1 := ⟨f - 1, by omega⟩
  refine ⟨g, by omega, ?_⟩
  rw [basic_step, h, take_cons]
  simp only [List.map_cons, List.map_nil, strip]
  rfl
theorem EQp.stop {s : Rx.Bytes} {a a1 : Nat} {l : List Rx.Nd} {free : Bool} (h : EQp s a a1 l free) (hoff : basOn (s.drop a1) = false) : ∀ f, 3 * (s.length - a) + 3 ≤ f → Rx.basic false f (s.drop a) = some (strip (Rx.joinN .cat l), s.drop a1) := by
  intro f hf
  obtain ⟨f', hf', he⟩ := h f hf
  obtain ⟨g, rfl⟩ : ∃ g, f' = g + 1 := ⟨f' - 1, by omega⟩
  rw [he, bas_off hoff, strip_joinCat]
  simp
theorem EQp.end_ {s : Rx.Bytes} {a a1 : Nat} {l : List Rx.Nd} {free : Bool} {c : UInt8} (h : EQp s a a1 l free) (hlt : a1 < s.length) (hd : s.drop a1 = c :: s.drop (a1 + 1)) (hon : basOn (s.drop a1) = true) (he : basEnd (s.drop a1) = true) : EQp s a (a1 + 1) (l ++ [.fin]) false := by
  intro f hf
  obtain ⟨f', hf', hq⟩ := h f hf
  obtain ⟨g, rfl⟩ : ∃ g, f' = g + 1 := ⟨f' - 1, by omega⟩
  refine ⟨g, by omega, ?_⟩
  rw [hd] at hon he
  rw [hq, hd, bas_on hon, if_pos he]
  rcases Rx.pieces false g false (s.drop (a1 + 1)) with _ | ⟨l9, s9⟩
  · simp
  · simp [strip]
theorem EQp.step {s : Rx.Bytes} {a a1 a2 a3 : Nat} {l : List Rx.Nd} {free : Bool} {c : UInt8} {t t2 : Rx.Nd} (h : EQp s a a1 l free) (hlt : a1 < s.length) (hd : s.drop a1 = c :: s.drop (a1 + 1)) (hon : basOn (s.drop a1) = true) (he : basEnd (s.drop a1) = false)
    (hstar : (c == 42 && !free) = false) (hp : ∀ g, 3 * (s.length - a1) + 1 ≤ g → Rx.plain false g (s.drop a1) = some (strip t, s.drop a2)) (hq : Rx.piece false (strip t) false (s.drop a2) = some (strip t2, s.drop a3)) (h3 : a1 + 1 ≤ a3) : EQp s a a3 (l ++ [t2]) false := by
  intro f hf
  obtain ⟨f', hf', hx⟩ := h f hf
  obtain ⟨g, rfl⟩ : ∃ g, f' = g + 1 := ⟨f' - 1, by omega⟩
  refine ⟨g, by omega, ?_⟩
  have hp2 := hp g (by omega)
  rw [hd] at hon he hp2
  rw [hx, hd, bas_on hon, if_neg (by rw [he]; decide), if_neg (by rw [hstar]; decide), hp2]
  simp only [hq]
  rcases Rx.pieces false g false (s.drop a3) with _ | ⟨l9, s9⟩
  · simp
  · simp

/-- Behind which things the loop's list stands. -/
def PcL (s : Rx.Bytes) (a a1 : Nat) (first : Bool) (l : List Rx.Nd) : Prop := (first = true ∧ l = [] ∧ a1 = a) ∨ (first = true ∧ l = [.beg] ∧ EQp s a a1 l true) ∨ (first = false ∧ l ≠ [] ∧ l ≠ [.beg] ∧ EQp s a a1 l false)
theorem PcL.eq {s : Rx.Bytes} {a a1 : Nat} {first : Bool} {l : List Rx.Nd} (h : PcL s a a1 first l) (hc : ¬ (first = true ∧ l = [] ∧ (s.drop a1).head? = some 94)) : ∃ free, EQp s a a1 l free ∧ (free = false ↔ l ≠ [] ∧ l ≠ [.beg]) := by
  rcases h with ⟨h1, rfl, rfl⟩ | ⟨h1, rfl, h2⟩ | ⟨h1, h2, h3, h4⟩
  · exact ⟨true, EQp.start fun e => hc ⟨h1, rfl, e⟩, by simp⟩
  · exact ⟨true, h2, by simp⟩
  · exact ⟨false, h4, by simp [h2, h3]⟩

structure PcR (w wr : World) (r : Nat) (s : Rx.Bytes) (a a1 : Nat) (b1 first : Bool) (v : Value) (ps : List Nat) : Prop where
  pts : PtsAt wr w.heap.size v ps
  go : GoR w wr r s a1 false b1
  le : a ≤ a1
  len : ps.length + (s.length - a1) ≤ s.length - a
  tr : b1 = false → ∃ l, TreesAt wr w.heap.size wr.heap.size v ps l ∧ PcL s a a1 first l

theorem PcR.kept {w wr w' : World} {r : Nat} {s : Rx.Bytes} {a a1 : Nat} {b1 first : Bool} {v : Value} {ps : List Nat} (I : PcR w wr r s a a1 b1 first v ps) (hr : RfAt w' r s a1 false false b1) (hk : Kept (· = r) wr w') (hrw : r < w.heap.size) : PcR w w' r s a a1 b1 first v ps :=
  ⟨I.pts.kept hk (fun k hk e => by omega), I.go.go hr hk I.go.le.1, I.le, I.len, fun hb => by
    obtain ⟨l, h1, h2⟩ := I.tr hb
    exact ⟨l, (h1.kept hk fun k hk _ _ e => by omega).up hk.size (Nat.le_refl _), h2⟩⟩

theorem cell_rnew2 (w : World) (cs : Array Value) : ∀ j u, [ptrV w.heap.size][j]? = some u → ((w.alloc (.cells cs 68)).alloc (.cells #[ptrV w.heap.size] 24)).cell? ((⟨w.heap.size + 1, 0, none⟩ : Addr).add j) = some u := by
  intro j u h
  have := cell_one_new (w.alloc (.cells cs 68)) (ptrV w.heap.size) 24 j u h
  rw [show (w.alloc (.cells cs 68)).heap.size = w.heap.size + 1 by simp] at this
  exact this

/-- Behind the append of a new node. -/
theorem PcR.pushNew {w w1 wr w5 : World} {r : Nat} {s : Rx.Bytes} {a a1 : Nat} {first f2 : Bool} {v v' : Value} {ps : List Nat} {k : Int} {n : Rx.Nd} (I : PcR w w1 r s a a1 false first v ps) (hkw : Kept (· = r) w1 wr) (hr : r < w.heap.size) {a2 : Nat} (ha2 : a1 < a2) (G : GoR w wr r s a2 false false)
    (hn : ∀ (W : World) (M : Nat → Prop) (p : Nat), M p → Blk W p (ndCells k noHas 0 0 (.slice none 0 0)) 68 → RtIn W M p n)
    (hown : w5.ownsRow w.heap.size 24 1 v' (ps.length + 1) (ps.map ptrV ++ [ptrV wr.heap.size]))
    (hg : ((wr.alloc (.cells (ndCells k noHas 0 0 (.slice none 0 0)) 68)).alloc (.cells #[ptrV wr.heap.size] 24)).grownBy w5 v.ownBlock)
    (hv : v'.ownBlock = v.ownBlock ∨ v'.ownBlock = some ((wr.alloc (.cells (ndCells k noHas 0 0 (.slice none 0 0)) 68)).alloc (.cells #[ptrV wr.heap.size] 24)).heap.size)
    (hl : ∀ l, ps.length = l.length → PcL s a a1 first l → PcL s a a2 f2 (l ++ [n])) :
    PcR w w5 r s a a2 false f2 v' (ps ++ [wr.heap.size]) := by
  have hk : Kept (fun _ => False) wr (wr.alloc (.cells (ndCells k noHas 0 0 (.slice none 0 0)) 68)) := (Kept.refl _ _).alloc _
  have hb := Blk.new wr (ndCells k noHas 0 0 (.slice none 0 0)) 68
  have hkws := hkw.size
  have hob : ∀ k, v.ownBlock = some k → w.heap.size ≤ k ∧ k < wr.heap.size := fun k e => by have := I.pts.own.lt k e; omega
  have hsz := G.kept.size
  have ha3 := G.le.1
  have hs1 : (wr.alloc (.cells (ndCells k noHas 0 0 (.slice none 0 0)) 68)).heap.size = wr.heap.size + 1 := by simp
  have G2 : GoR w (wr.alloc (.cells (ndCells k noHas 0 0 (.slice none 0 0)) 68)) r s a2 false false := ⟨Blk.alloc G.rd _, G.kept.alloc _, G.le⟩
  generalize wr.alloc (.cells (ndCells k noHas 0 0 (.slice none 0 0)) 68) = w2 at *
  have hs5 : w2.heap.size ≤ w5.heap.size := by
    have h1 := hg.size
    have h2 : (w2.alloc (.cells #[ptrV wr.heap.size] 24)).heap.size = w2.heap.size + 1 := by simp
    omega
  have hlen := I.len
  have hle := I.le
  refine ⟨PtsAt.push hown, G2.pushed hg (fun k e => (hob k e).1) hr, by omega, by simp; omega, fun _ => ?_⟩
  obtain ⟨l, h1, h2⟩ := I.tr rfl
  exact ⟨l ++ [n], ((((h1.kept hkw fun k hk _ _ e => by omega).up hkws (Nat.le_refl _)).kept hk fun _ _ _ _ h => h).push (H' := w2.heap.size) (hn _ (· = wr.heap.size) _ rfl hb) (fun b hb => by
    subst hb
    exact ⟨Nat.le_refl _, by omega, hsz, fun e => by have := (hob _ e).2; omega⟩) (by omega) (Nat.le_refl _) hg hv).up hs5 (Nat.le_refl _), hl l h1.1 h2⟩

/-- Does a star stand for nothing here? -/
def notFree : List Rx.Nd → Bool
  | [] => false
  | [.beg] => false
  | _ => true
theorem notFree_iff (l : List Rx.Nd) : notFree l = true ↔ l ≠ [] ∧ l ≠ [.beg] := by
  unfold notFree
  split
  · simp
  · simp
  · rename_i h1 h2
    exact ⟨fun _ => ⟨h1, h2⟩, fun _ => rfl⟩

/-- Is a node the beginning's? Its kind says so. -/
theorem RtIn.kind2 {M : Nat → Prop} {w : World} {p : Nat} {n : Rx.Nd} (h : RtIn w M p n) : ∃ k : Int, w.cell? ⟨p, 0, none⟩ = some (.int .i64 k) ∧ (k = 2 ↔ n = .beg) := by
  cases h with
  | empty hp hb => exact ⟨_, hb.cell 0 (nd_kind _ _ _ _ _), by simp⟩
  | set hp hb => exact ⟨_, hb.cell 0 (nd_kind _ _ _ _ _), by simp⟩
  | beg hp hb => exact ⟨_, hb.cell 0 (nd_kind _ _ _ _ _), by simp⟩
  | fin hp hb => exact ⟨_, hb.cell 0 (nd_kind _ _ _ _ _), by simp⟩
  | cat hp hb => exact ⟨_, hb.cell 0 (nd_kind _ _ _ _ _), by simp⟩
  | alt hp hb => exact ⟨_, hb.cell 0 (nd_kind _ _ _ _ _), by simp⟩
  | rep hp hb => exact ⟨_, hb.cell 0 (nd_kind _ _ _ _ _), by simp⟩

end Go.Proofs.YthdkbbkkijdhfaaGreatDoor
