/-
  Texts of this seat put together: R11, R17, R21.
-/
import Derived.Test.YthdkbbkkijdhfaaGreatDoorH21
import Derived.Deep.RegionWith

/-
  The walks of the reference's joined and repeated. Condition: what is told lies in memory.
-/
namespace Go.Proofs.YthdkbbkkijdhfaaGreatDoor
open Go.RowKit Go.Shelf Go.Maps

theorem rnd_new4 (a b c d : Value) : (((Tryz.zeroCells68.setIfInBounds 0 a).setIfInBounds 257 b).setIfInBounds 258 c).setIfInBounds 259 d = (a :: hasCells noHas ++ [b, c, d]).toArray := by
  kernel_rfl
theorem rnd_new2 (kind : Int) (d : Value) : (Tryz.zeroCells68.setIfInBounds 0 (.int .i64 kind)).setIfInBounds 259 d = ndCells kind noHas 0 0 d := by
  kernel_rfl

set_option maxHeartbeats 1600000 in
set_option maxRecDepth 100000 in
theorem rjoined_any (kind : Int) (mk : List Rx.Nd → Rx.Nd) (hk : Kind2 kind mk) (v : Value) (ps : List Nat) (B : Nat) (w : World) (h : PtsAt w B v ps) (hB : B ≤ w.heap.size) (hl : ps.length ≤ 1073741824) :
    Calls Tryz.prog 45 #[.int .i64 kind, v] w fun e w' => (∃ p, e = .returned (.pointer (some ⟨p, 0, none⟩)) ∧ ∀ H l, TreesAt w B H v ps l → RtIn w' (fun b => B ≤ b ∧ b < w'.heap.size) p (Rx.joinN mk l)) ∧ Below w.heap.size w w' := by
  rcases h.ex with ⟨rfl, rfl⟩ | ⟨k, c, rfl, hob, hc, hpos, hBk, hrow⟩
  · clear h
    go_enter Tryz.func45, Tryz.ntmps45
    go_wp2_with fail
    rw [rnd_new]
    go_ret
    refine ⟨⟨w.heap.size, rfl, ?_⟩, (Below.refl _ _).alloc (Nat.le_refl _) _⟩
    rintro H l ⟨hl, -⟩
    obtain rfl : l = [] := by simpa using hl.symm
    exact .empty ⟨hB, by simp⟩ (Blk.new _ _ _)
  · clear h
    rcases ps with _ | ⟨q, _ | ⟨q2, t⟩⟩
    · simp at hpos
    · have h0 : w.cell? ⟨k, 0, none⟩ = some (.pointer (some ⟨q, 0, none⟩)) := hrow.cell 0 (by simp)
      clear hrow
      go_enter Tryz.func45, Tryz.ntmps45
      go_wp2_with fail
      go_ret
      refine ⟨⟨q, rfl, ?_⟩, Below.refl _ _⟩
      rintro H l ⟨hl, hH, Ms, h2, h3⟩
      obtain ⟨x, rfl⟩ : ∃ x, l = [x] := by
        match l, hl with
        | [x], _ => exact ⟨x, rfl⟩
      exact (h2 0 (by simp)).mono fun b hb => ⟨(h3 0 (by simp) b hb).1, by have := (h3 0 (by simp) b hb).2.1; omega⟩
    · have HROW := Lib.hid hrow
      have hd0 : ¬ ((t.length : Int) + 1 + 1 = 0) := by omega
      have hd1 : ¬ ((t.length : Int) + 1 + 1 = 1) := by omega
      clear hrow
      go_enter Tryz.func45, Tryz.ntmps45
      go_wp2_with fail
      rw [rnd_new2]
      go_ret
      have hK : Kept (fun _ => False) w (w.alloc (.cells (ndCells kind noHas 0 0 (.slice (some ⟨k, 0, none⟩) (t.length + 1 + 1) c)) 68)) := (Kept.refl _ _).alloc _
      have hb := Blk.new w (ndCells kind noHas 0 0 (.slice (some ⟨k, 0, none⟩) (t.length + 1 + 1) c)) 68
      refine ⟨⟨w.heap.size, rfl, ?_⟩, hK.below⟩
      intro H l ht
      have hlen := ht.1
      simp only [List.length_cons] at hlen hl
      have := TreesAt.made (p := w.heap.size) (c := c) hk ht hK hob HROW.out hBk (Nat.le_refl _) (by rw [← hlen]; exact hb) (by omega) (by omega)
      match l, hlen with
      | x :: y :: r, _ => cases hk <;> exact this

/-- The kind of a node that lies in memory. -/
theorem RtIn.kind {M : Nat → Prop} {w : World} {p : Nat} {n : Rx.Nd} (h : RtIn w M p n) : ∃ k : Int, w.cell? ⟨p, 0, none⟩ = some (.int .i64 k) := by
  cases h with
  | empty hp hb => exact ⟨_, hb.cell 0 (nd_kind _ _ _ _ _)⟩
  | set hp hb => exact ⟨_, hb.cell 0 (nd_kind _ _ _ _ _)⟩
  | beg hp hb => exact ⟨_, hb.cell 0 (nd_kind _ _ _ _ _)⟩
  | fin hp hb => exact ⟨_, hb.cell 0 (nd_kind _ _ _ _ _)⟩
  | cat hp hb => exact ⟨_, hb.cell 0 (nd_kind _ _ _ _ _)⟩
  | alt hp hb => exact ⟨_, hb.cell 0 (nd_kind _ _ _ _ _)⟩
  | rep hp hb => exact ⟨_, hb.cell 0 (nd_kind _ _ _ _ _)⟩

theorem GoR.times {w wx : World} {r : Nat} {s : Rx.Bytes} {a : Nat} {ext bad : Bool} (G : GoR w wx r s a ext bad) :
    Calls Tryz.prog 60 #[.pointer (some ⟨r, 0, none⟩)] wx fun e w' => ∃ m n is a2 b2, e = .returned (.tuple #[.int .i64 m, .int .i64 n, .bool is]) ∧ GoR w w' r s a2 ext b2 ∧ a ≤ a2 ∧ (bad = true → b2 = true) ∧
      Hid (b2 = false → (is = false ∧ Rx.times ext (s.drop a) = some (none, s.drop a2)) ∨ (is = true ∧ ∃ mm : Nat, m = mm ∧ mm ≤ 255 ∧ -1 ≤ n ∧ n ≤ 255 ∧ Rx.times ext (s.drop a) = some (some (mm, n), s.drop a2))) := by
  refine (rtimes_any r s a ext bad wx G.rd G.le).mono ?_
  rintro e w' ⟨m, n, is, a2, b2, he, G2, h1, h2, h3⟩
  exact ⟨m, n, is, a2, b2, he, G.go G2.rd G2.kept G2.le.1, h1, h2, h3⟩

/-- What repeated hands back and leaves. -/
def RRepPost (w : World) (r : Nat) (s : Rx.Bytes) (a : Nat) (ext : Bool) (M : Nat → Prop) (t : Rx.Nd) (e : Ending) (w' : World) : Prop := ∃ p2 a2 b2, e = .returned (.pointer (some ⟨p2, 0, none⟩)) ∧ GoR w w' r s a2 ext b2 ∧ a ≤ a2 ∧
  (b2 = false → ∃ t2, RtIn w' (fun b => M b ∨ (w.heap.size ≤ b ∧ b < w'.heap.size)) p2 t2 ∧ Rx.piece ext (strip t) false (s.drop a) = some (strip t2, s.drop a2) ∧ (t2 = t ∨ ∃ m n, t2 = .rep m n t))

set_option maxHeartbeats 6400000 in
set_option maxRecDepth 100000 in
theorem rrepeated_any (r p : Nat) (s : Rx.Bytes) (a : Nat) (ext : Bool) (M : Nat → Prop) (t : Rx.Nd) (w : World) (hr : RfAt w r s a ext false false) (ha : a ≤ s.length ∧ s.length < 1073741824) (hn : RtIn w M p t) (hM : ∀ b, M b → b ≠ r) :
    Calls Tryz.prog 48 #[.pointer (some ⟨r, 0, none⟩), .pointer (some ⟨p, 0, none⟩)] w fun e w' => RRepPost w r s a ext M t e w' := by
  have G : GoR w w r s a ext false := ⟨hr, Kept.refl _ _, ha⟩
  have HN : Hid (∀ w', Kept (· = r) w w' → RtIn w' M p t) := fun w' hk => hn.kept hk (fun k hk e => hM k hk e)
  have HLT := Lib.hid hn.lt
  have hc := G.times
  clear hr hn
  go_enter Tryz.func48, Tryz.ntmps48
  go_wp2_with fail
  refine hc.mono ?_
  rintro e w1 ⟨m, n, is, a1, b1, rfl, G1, hl1, -, HT⟩
  clear hc G
  cases is with
  | false =>
    go_wp2_with fail
    go_ret
    refine ⟨p, a1, b1, rfl, G1, hl1, fun hb => ⟨t, (HN.out _ G1.kept).mono fun b hb => .inl hb, ?_, .inl rfl⟩⟩
    rcases HT.out hb with ⟨-, ht⟩ | ⟨h, -⟩
    · unfold Rx.piece; rw [ht]
    · cases h
  | true =>
    have hc := G1.times
    go_wp2_with fail
    refine hc.mono ?_
    rintro e w2 ⟨m2, n2, twice, a2, b2, rfl, G2, hl2, hb2, HT2⟩
    clear hc G1
    have c4 := G2.rd.c4
    have f4 := G2.rd.free 4
    have HN2 := Lib.hid (HN.out _ G2.kept)
    obtain ⟨kd, c0⟩ := HN2.out.kind
    go_upto_region 5 with fail
    go_cut [10, 20, 22, 25, 26, 27, 28, 29, 30, 31, 32, 33, 34, 35, 36, 37, 38, 39, 40] (fun _s10 _s20 _s22 _s25 _s26 _s27 _s28 _s29 _s30 _s31 _s32 _s33 _s34 _s35 _s36 _s37 _s38 _s39 s40 wx => s40 = .bool (twice || (kd == 2 || kd == 3)) ∧ wx = w2)
    case first =>
      cases twice with
      | true =>
        go_wp2_with fail
        go_meet
        exact ⟨rfl, rfl⟩
      | false =>
        by_cases h2 : kd = 2
        · subst h2
          go_wp2_with fail
          go_meet
          exact ⟨rfl, rfl⟩
        · have HK2 : Hid ((kd == 2) = false) := by show _ = _; simpa using h2
          go_wp2_with fail
          go_meet
          exact ⟨by rw [HK2.out]; rfl, rfl⟩
    case rest =>
    obtain ⟨rfl, rfl⟩ := hcut
    go_upto_if 40 with fail
    go_cut [40, 41, 42, 43] (fun _s40 _s41 _s42 _s43 wx => ∃ b3, GoR w wx r s a2 ext b3 ∧ Hid (b3 = false → b2 = false ∧ twice = false))
    case first =>
      have H2 := Lib.hid G2
      have H3 := Lib.hid (G2.setBad true)
      clear G2 HT2 HT
      cases ht : twice || (kd == 2 || kd == 3) with
      | true =>
        clear ht
        go_wp2_with fail
        go_meet
        exact ⟨true, H3.out, fun h => by cases h⟩
      | false =>
        have HT := Lib.hid ht
        clear ht
        go_wp2_with fail
        go_meet
        exact ⟨b2, H2.out, fun h => ⟨h, (Bool.or_eq_false_iff.1 HT.out).1⟩⟩
    case rest =>
      obtain ⟨b3, G3, HB3⟩ := hcut
      clear G2 c4 f4 c0
      go_wp2_with fail
      rw [rnd_new4]
      go_ret
      have hq := Blk.new wc #[.pointer (some ⟨p, 0, none⟩)] 24
      have hk1 : Kept (fun _ => False) wc (wc.alloc (.cells #[.pointer (some ⟨p, 0, none⟩)] 24)) := (Kept.refl _ _).alloc _
      have hsz : (wc.alloc (.cells #[.pointer (some ⟨p, 0, none⟩)] 24)).heap.size = wc.heap.size + 1 := by simp
      show RRepPost w r s a ext M t (.returned (.pointer (some ⟨wc.heap.size + 1, 0, none⟩))) ((wc.alloc (.cells #[.pointer (some ⟨p, 0, none⟩)] 24)).alloc (.cells (ndCells 6 noHas m n (.slice (some ⟨wc.heap.size, 0, none⟩) 1 1)) 68))
      generalize wc.alloc (.cells #[.pointer (some ⟨p, 0, none⟩)] 24) = w3 at *
      have hb := Blk.new w3 (ndCells 6 noHas m n (.slice (some ⟨wc.heap.size, 0, none⟩) 1 1)) 68
      have hk2 : Kept (fun _ => False) wc (w3.alloc (.cells (ndCells 6 noHas m n (.slice (some ⟨wc.heap.size, 0, none⟩) 1 1)) 68)) := hk1.alloc _
      have hq2 := hq.alloc (.cells (ndCells 6 noHas m n (.slice (some ⟨wc.heap.size, 0, none⟩) 1 1)) 68)
      have hsz2 : (w3.alloc (.cells (ndCells 6 noHas m n (.slice (some ⟨wc.heap.size, 0, none⟩) 1 1)) 68)).heap.size = wc.heap.size + 2 := by simp [hsz]
      rw [hsz] at hb
      generalize w3.alloc (.cells (ndCells 6 noHas m n (.slice (some ⟨wc.heap.size, 0, none⟩) 1 1)) 68) = w4 at *
      have G4 : GoR w w4 r s a2 ext b3 := G3.go (G3.rd.kept hk2 id) (hk2.mono fun _ _ h => h.elim) G3.le.1
      have hws := G3.kept.size
      refine ⟨wc.heap.size + 1, a2, b3, rfl, G4, by omega, fun h3 => ?_⟩
      obtain ⟨h2, htw⟩ := HB3.out h3
      have h1 : b1 = false := by
        cases b1
        · rfl
        · rw [hb2 rfl] at h2; cases h2
      rcases HT.out h1 with ⟨h, -⟩ | ⟨-, mm, rfl, q1, q2, q3, q4⟩
      · cases h
      · rcases HT2.out h2 with ⟨-, p1⟩ | ⟨h, -⟩
        · have hn4 : RtIn w4 (fun b => M b ∧ b < w.heap.size) p t := HLT.out.kept G4.kept fun k hk e => hM k hk.1 e
          refine ⟨.rep mm n t, .rep (Ms := fun _ b => M b ∧ b < w.heap.size) (ps := [p]) (.inr ⟨by omega, by omega⟩) hb ⟨q1, q2, q3⟩ (.inr ⟨hws, by omega⟩) (by omega) rfl ⟨_, hq2, fun i hi => ?_⟩ (fun i hi b hb => ⟨.inl hb.1, by omega, by omega, fun j hj hne => by omega⟩) hn4, ?_, .inr ⟨mm, n, rfl⟩⟩
          · obtain rfl : i = 0 := by simp at hi; exact hi
            rfl
          · unfold Rx.piece
            rw [q4]
            simp only [p1]
            rfl
        · rw [htw] at h; cases h

end Go.Proofs.YthdkbbkkijdhfaaGreatDoor

/-
  The reference's trees, seen in one way; the walk of bare. Condition: the tree lies in memory, its kids apart.
-/
namespace Go.Proofs.YthdkbbkkijdhfaaGreatDoor
open Go.RowKit Go.Shelf Go.Maps

/-- A node and its kids, whatever its kind. -/
structure Fam (w : World) (M : Nat → Prop) (p : Nat) (kind mn mx : Int) (h : Rx.Has) (a : Option Addr) (k c : Nat) (l : List Rx.Nd) (ps : List Nat) (Ms : Nat → Nat → Prop) : Prop where
  hp : M p
  hb : Blk w p (ndCells kind h mn mx (.slice a l.length c)) 68
  hz : l.length = 0 → a = none ∧ c = 0
  ha : 0 < l.length → a = some ⟨k, 0, none⟩
  hk : 0 < l.length → M k ∧ p ≠ k ∧ Row w k ps
  hl : l.length ≤ 1073741824
  hpl : ps.length = l.length
  hs : Apart M p k l.length Ms
  hn : ∀ i, i < l.length → RtIn w (Ms i) (ps.getD i 0) (l.getD i .empty)

/-- A node's kind, its kids, and how it is made of them. -/
inductive View : Rx.Nd → Int → Int → Int → Rx.Has → List Rx.Nd → (List Rx.Nd → Rx.Nd) → Prop
  | empty : View .empty 0 0 0 noHas [] (fun _ => .empty)
  | set (h : Rx.Has) : View (.set h) 1 0 0 h [] (fun _ => .set h)
  | beg : View .beg 2 0 0 noHas [] (fun _ => .beg)
  | fin : View .fin 3 0 0 noHas [] (fun _ => .fin)
  | cat (l : List Rx.Nd) (h0 : 0 < l.length) : View (.cat l) 4 0 0 noHas l .cat
  | alt (l : List Rx.Nd) (h0 : 0 < l.length) : View (.alt l) 5 0 0 noHas l .alt
  | rep (m : Nat) (most : Int) (n : Rx.Nd) (hm : m ≤ 255 ∧ -1 ≤ most ∧ most ≤ 255) : View (.rep m most n) 6 m most noHas [n] (fun l => .rep m most (l.getD 0 .empty))

theorem View.made {t : Rx.Nd} {kind mn mx : Int} {h : Rx.Has} {l : List Rx.Nd} {mk : List Rx.Nd → Rx.Nd} (v : View t kind mn mx h l mk) : mk l = t := by
  cases v <;> rfl

theorem RtIn.view {w : World} {M : Nat → Prop} {p : Nat} {t : Rx.Nd} (h : RtIn w M p t) : ∃ kind mn mx hh a k c l ps Ms mk, Fam w M p kind mn mx hh a k c l ps Ms ∧ View t kind mn mx hh l mk := by
  cases h with
  | empty hp hb => exact ⟨0, 0, 0, noHas, none, 0, 0, [], [], fun _ _ => True, _, ⟨hp, hb, fun _ => ⟨rfl, rfl⟩, fun h => absurd h (by decide), fun h => absurd h (by decide), by decide, rfl, fun i hi => absurd hi (Nat.not_lt_zero i), fun i hi => absurd hi (Nat.not_lt_zero i)⟩, .empty⟩
  | set hp hb => exact ⟨1, 0, 0, _, none, 0, 0, [], [], fun _ _ => True, _, ⟨hp, hb, fun _ => ⟨rfl, rfl⟩, fun h => absurd h (by decide), fun h => absurd h (by decide), by decide, rfl, fun i hi => absurd hi (Nat.not_lt_zero i), fun i hi => absurd hi (Nat.not_lt_zero i)⟩, .set _⟩
  | beg hp hb => exact ⟨2, 0, 0, noHas, none, 0, 0, [], [], fun _ _ => True, _, ⟨hp, hb, fun _ => ⟨rfl, rfl⟩, fun h => absurd h (by decide), fun h => absurd h (by decide), by decide, rfl, fun i hi => absurd hi (Nat.not_lt_zero i), fun i hi => absurd hi (Nat.not_lt_zero i)⟩, .beg⟩
  | fin hp hb => exact ⟨3, 0, 0, noHas, none, 0, 0, [], [], fun _ _ => True, _, ⟨hp, hb, fun _ => ⟨rfl, rfl⟩, fun h => absurd h (by decide), fun h => absurd h (by decide), by decide, rfl, fun i hi => absurd hi (Nat.not_lt_zero i), fun i hi => absurd hi (Nat.not_lt_zero i)⟩, .fin⟩
  | cat hp hb h0 hl hk hpk hpl hps hs hn => exact ⟨4, 0, 0, noHas, _, _, _, _, _, _, _, ⟨hp, hb, fun e => by omega, fun _ => rfl, fun _ => ⟨hk, hpk, hps⟩, hl, hpl, hs, hn⟩, .cat _ h0⟩
  | alt hp hb h0 hl hk hpk hpl hps hs hn => exact ⟨5, 0, 0, noHas, _, _, _, _, _, _, _, ⟨hp, hb, fun e => by omega, fun _ => rfl, fun _ => ⟨hk, hpk, hps⟩, hl, hpl, hs, hn⟩, .alt _ h0⟩
  | rep hp hb hm hk hpk hpl hps hs hn => exact ⟨6, _, _, noHas, _, _, _, [_], _, _, _, ⟨hp, hb, fun e => absurd e (by simp), fun _ => rfl, fun _ => ⟨hk, hpk, hps⟩, by simp, hpl, hs, fun i hi => by
      obtain rfl : i = 0 := by simp at hi; exact hi
      exact hn⟩, .rep _ _ _ hm⟩

theorem Fam.tree {w : World} {M : Nat → Prop} {p : Nat} {t : Rx.Nd} {kind mn mx : Int} {h : Rx.Has} {a : Option Addr} {k c : Nat} {l l' : List Rx.Nd} {ps : List Nat} {Ms : Nat → Nat → Prop} {mk : List Rx.Nd → Rx.Nd} (v : View t kind mn mx h l mk) (hl : l'.length = l.length)
    (F : Fam w M p kind mn mx h a k c l' ps Ms) : RtIn w M p (mk l') := by
  obtain ⟨f1, f2, f0, f3, f4, f5, f6, f7, f8⟩ := F
  have leaf : l = [] → l' = [] := fun e => by rw [e] at hl; exact List.length_eq_zero_iff.1 hl
  cases v with
  | empty =>
    obtain rfl := leaf rfl
    obtain ⟨rfl, rfl⟩ := f0 rfl
    exact .empty f1 f2
  | set =>
    obtain rfl := leaf rfl
    obtain ⟨rfl, rfl⟩ := f0 rfl
    exact .set f1 f2
  | beg =>
    obtain rfl := leaf rfl
    obtain ⟨rfl, rfl⟩ := f0 rfl
    exact .beg f1 f2
  | fin =>
    obtain rfl := leaf rfl
    obtain ⟨rfl, rfl⟩ := f0 rfl
    exact .fin f1 f2
  | cat _ h0 =>
    have h1 : 0 < l'.length := by omega
    obtain rfl := f3 h1
    obtain ⟨x1, x2, x3⟩ := f4 h1
    exact .cat f1 f2 h1 f5 x1 x2 f6 x3 f7 f8
  | alt _ h0 =>
    have h1 : 0 < l'.length := by omega
    obtain rfl := f3 h1
    obtain ⟨x1, x2, x3⟩ := f4 h1
    exact .alt f1 f2 h1 f5 x1 x2 f6 x3 f7 f8
  | rep m most n hm =>
    obtain ⟨x, rfl⟩ : ∃ x, l' = [x] := List.length_eq_one_iff.1 (by simpa using hl)
    obtain rfl := f3 (by simp)
    obtain ⟨x1, x2, x3⟩ := f4 (by simp)
    exact .rep f1 f2 hm x1 x2 f6 x3 f7 (f8 0 (by simp))

/-- One kid written anew. -/
theorem Fam.step {w w3 : World} {M : Nat → Prop} {p q i : Nat} {n : Rx.Nd} {kind mn mx : Int} {h : Rx.Has} {a : Option Addr} {k c : Nat} {l : List Rx.Nd} {ps : List Nat} {Ms : Nat → Nat → Prop}
    (F : Fam w M p kind mn mx h a k c l ps Ms) (hi : i < l.length) (hk : Kept (Ms i) w w3) (hq : RtIn w3 (Ms i) q n) :
    Fam (w3.setCell ⟨k, i, none⟩ (ptrV q)) M p kind mn mx h a k c (l.set i n) (ps.set i q) Ms ∧ Kept M w (w3.setCell ⟨k, i, none⟩ (ptrV q)) := by
  obtain ⟨f1, f2, f0, f3, f4, f5, f6, f7, f8⟩ := F
  obtain ⟨x1, x2, x3⟩ := f4 (by omega)
  have hset : Kept (· = k) w3 (w3.setCell ⟨k, i, none⟩ (ptrV q)) := (Kept.refl (· = k) w3).setCell (.inl rfl) i _
  have nk : ∀ j, j < l.length → ∀ b, Ms j b → ¬ b = k := fun j hj b hb => (f7 j hj b hb).2.2.1
  refine ⟨⟨f1, ?_, fun e => ?_, fun e => f3 (by omega), fun _ => ⟨x1, x2, ?_⟩, by simpa using f5, by simpa using f6, by simpa using f7, fun j hj => ?_⟩, ?_⟩
  · rw [List.length_set]
    exact (f2.kept hk fun e => (f7 i hi p e).2.1 rfl).kept hset x2
  · rw [List.length_set] at e; exact f0 e
  · exact (x3.kept hk fun e => (f7 i hi k e).2.2.1 rfl).set i q (by omega)
  · rw [List.length_set] at hj
    by_cases he : i = j
    · subst he
      have e1 : (ps.set i q).getD i 0 = q := by simp [List.getD_eq_getElem?_getD, show i < ps.length by omega]
      have e2 : (l.set i n).getD i .empty = n := by simp [List.getD_eq_getElem?_getD, hi]
      rw [e1, e2]
      exact hq.kept hset (nk i hi)
    · have e1 : (ps.set i q).getD j 0 = ps.getD j 0 := by simp [List.getD_eq_getElem?_getD, List.getElem?_set_ne he]
      have e2 : (l.set i n).getD j .empty = l.getD j .empty := by simp [List.getD_eq_getElem?_getD, List.getElem?_set_ne he]
      rw [e1, e2]
      exact ((f8 j hj).kept hk fun b hb hb2 => (f7 i hi b hb2).2.2.2 j hj (Ne.symm he) hb).kept hset (nk j hj)
  · exact (hk.mono fun b _ hb => (f7 i hi b hb).1).setCell (.inl x1) i _

theorem Fam.drew {w : World} {M : Nat → Prop} {p : Nat} {kind mn mx : Int} {h : Rx.Has} {a : Option Addr} {k c : Nat} {l : List Rx.Nd} {ps : List Nat} {Ms : Nat → Nat → Prop} (F : Fam w M p kind mn mx h a k c l ps Ms) : Fam w.drew M p kind mn mx h a k c l ps Ms := by
  have hk : Kept (fun _ => False) w w.drew := (Kept.refl _ w).drew
  exact ⟨F.hp, Blk.drew F.hb, F.hz, F.ha, fun e => ⟨(F.hk e).1, (F.hk e).2.1, (F.hk e).2.2.kept hk id⟩, F.hl, F.hpl, F.hs, fun i hi => (F.hn i hi).kept hk fun _ _ h => h⟩

theorem Fam.kept {S : Nat → Prop} {w w' : World} {M : Nat → Prop} {p : Nat} {kind mn mx : Int} {h : Rx.Has} {a : Option Addr} {k c : Nat} {l : List Rx.Nd} {ps : List Nat} {Ms : Nat → Nat → Prop} (F : Fam w M p kind mn mx h a k c l ps Ms) (hk : Kept S w w') (hS : ∀ b, M b → ¬ S b) : Fam w' M p kind mn mx h a k c l ps Ms :=
  ⟨F.hp, F.hb.kept hk (hS _ F.hp), F.hz, F.ha, fun e => ⟨(F.hk e).1, (F.hk e).2.1, (F.hk e).2.2.kept hk (hS _ (F.hk e).1)⟩, F.hl, F.hpl, F.hs, fun i hi => (F.hn i hi).kept hk fun b hb => hS b (F.hs i hi b hb).1⟩

theorem View.kid {t : Rx.Nd} {kind mn mx : Int} {h : Rx.Has} {l : List Rx.Nd} {mk : List Rx.Nd → Rx.Nd} (v : View t kind mn mx h l mk) (i : Nat) (hi : i < l.length) : SizeOf.sizeOf (l.getD i .empty) < SizeOf.sizeOf t := by
  have hmem : l.getD i .empty ∈ l := by
    rw [List.getD_eq_getElem?_getD, List.getElem?_eq_getElem hi]
    exact List.getElem_mem _
  cases v with
  | empty => exact absurd hi (Nat.not_lt_zero i)
  | set => exact absurd hi (Nat.not_lt_zero i)
  | beg => exact absurd hi (Nat.not_lt_zero i)
  | fin => exact absurd hi (Nat.not_lt_zero i)
  | cat _ _ => have := List.sizeOf_lt_of_mem hmem; simp only [Rx.Nd.cat.sizeOf_spec]; omega
  | alt _ _ => have := List.sizeOf_lt_of_mem hmem; simp only [Rx.Nd.alt.sizeOf_spec]; omega
  | rep m most n _ =>
    obtain rfl : i = 0 := by simp at hi; exact hi
    simp only [List.getD_cons_zero, Rx.Nd.rep.sizeOf_spec]
    omega

theorem View.strip1 {t : Rx.Nd} {mn mx : Int} {h : Rx.Has} {l : List Rx.Nd} {mk : List Rx.Nd → Rx.Nd} (v : View t 4 mn mx h l mk) (h1 : l.length = 1) : strip t = strip (l.getD 0 .empty) := by
  cases v with
  | cat _ _ =>
    match l, h1 with
    | [x], _ => exact by rw [strip_cat]; rfl
theorem View.strip2 {t : Rx.Nd} {kind mn mx : Int} {h : Rx.Has} {l : List Rx.Nd} {mk : List Rx.Nd → Rx.Nd} (v : View t kind mn mx h l mk) (h1 : ¬ (kind = 4 ∧ l.length = 1)) : strip t = mk (l.map strip) := by
  cases v with
  | empty => simp [strip]
  | set => simp [strip]
  | beg => simp [strip]
  | fin => simp [strip]
  | cat _ _ => rw [strip_cat, catOf_long (by rw [List.length_map]; exact fun e => h1 ⟨rfl, e⟩)]
  | alt _ _ => rw [strip_alt]
  | rep m most n _ => simp [strip]

def BareC (t : Rx.Nd) : Prop := ∀ (w : World) (M : Nat → Prop) (p : Nat), RtIn w M p t → Calls Tryz.prog 31 #[.pointer (some ⟨p, 0, none⟩)] w fun e w' => ∃ q, e = .returned (.pointer (some ⟨q, 0, none⟩)) ∧ RtIn w' M q (strip t) ∧ Kept M w w'

set_option maxHeartbeats 6400000 in
set_option maxRecDepth 100000 in
theorem bare_any : ∀ (N : Nat) (t : Rx.Nd), SizeOf.sizeOf t ≤ N → BareC t := by
  intro N
  induction N using Nat.strongRecOn with
  | ind N ih =>
  intro t hN w M p hp
  have HIH := Lib.hid ih
  have HN := Lib.hid hN
  have HP := Lib.hid hp
  clear ih hN hp
  go_enter Tryz.func31, Tryz.ntmps31
  go_wp2_with fail
  go_loopg [0] (SizeOf.sizeOf t) (fun g x0 wr => ∃ M' p' t', x0 = .pointer (some ⟨p', 0, none⟩) ∧ wr = w ∧ Hid (RtIn w M' p' t') ∧ Hid (∀ b, M' b → M b) ∧ Hid (strip t' = strip t) ∧ SizeOf.sizeOf t' ≤ g ∧ g ≤ SizeOf.sizeOf t)
  case atStart => exact ⟨M, p, t, rfl, rfl, HP.out, fun _ h => h, rfl, Nat.le_refl _, Nat.le_refl _⟩
  case round =>
    obtain ⟨M', p', t', rfl, rfl, HT, HM, HS, hg, hg2⟩ := hrel
    obtain ⟨kind, mn, mx, hh, a, k, c, l, ps, Ms, mk, F, v⟩ := HT.out.view
    have c0 := F.hb.cell 0 (nd_kind _ _ _ _ _)
    have c3 := F.hb.cell 259 (nd_kids _ _ _ _ _)
    have HF := Lib.hid F
    have HV := Lib.hid v
    clear F v
    go_upto_region 1 with fail
    go_cut [4, 5, 6, 7, 8, 9, 10, 11, 12, 13, 14, 15, 16] (fun _s4 _s5 _s6 _s7 _s8 _s9 _s10 _s11 _s12 _s13 _s14 _s15 s16 wx => s16 = .bool (decide (kind = 4 ∧ l.length = 1)) ∧ wx = wr)
    case first =>
      by_cases hk4 : kind = 4
      · subst hk4
        by_cases h1 : l.length = 1
        · rw [h1] at c3
          go_wp2_with fail
          go_meet
          exact ⟨by simp [h1], rfl⟩
        · have e1 : ¬ ((l.length : Int) = 1) := by omega
          go_wp2_with fail
          go_meet
          exact ⟨by simp [h1]; omega, rfl⟩
      · go_wp2_with fail
        go_meet
        exact ⟨by simp [hk4], rfl⟩
    case rest =>
      obtain ⟨rfl, rfl⟩ := hcut
      by_cases hc : kind = 4 ∧ l.length = 1
      · rw [decide_eq_true hc]
        obtain ⟨rfl, h1⟩ := hc
        have hpos : 0 < l.length := by omega
        obtain rfl := HF.out.ha hpos
        have ck := (HF.out.hk hpos).2.2.cell 0 (by rw [HF.out.hpl]; exact hpos)
        have hkid := HV.out.kid 0 hpos
        have HS1 := Lib.hid (HV.out.strip1 h1)
        rw [h1] at c3
        go_wp2_with fail
        go_roundg (gk - 1)
        case measure => omega
        case rel => exact ⟨Ms 0, ps.getD 0 0, l.getD 0 .empty, rfl, rfl, HF.out.hn 0 hpos, fun b hb => HM.out b (HF.out.hs 0 hpos b hb).1, by show _ = _; rw [← HS.out, HS1.out], by omega, by omega⟩
      · rw [decide_eq_false hc]
        have HS2 := Lib.hid (HV.out.strip2 hc)
        have hlb := HF.out.hl
        clear c0
        go_wp2_with fail
        go_loopw [3] (fun x3 wr => ∃ (i : Nat) (l' : List Rx.Nd) (ps' : List Nat), i ≤ l.length ∧ x3 = .int .i64 i ∧ l'.length = l.length ∧ Hid (∀ j, j < l.length → l'.getD j .empty = if j < i then strip (l.getD j .empty) else l.getD j .empty) ∧ Hid (Fam wr M' p' kind mn mx hh a k c l' ps' Ms) ∧ Kept M wc wr) (fun x3 _ => l.length - (intOf x3).toNat)
        case atStart => exact ⟨0, l, ps, Nat.zero_le _, rfl, rfl, fun j hj => by rw [if_neg (Nat.not_lt_zero j)], HF.out, Kept.refl _ _⟩
        case round =>
          obtain ⟨i, l', ps', hi, rfl, hll, HL, HF2, hkp⟩ := hrel
          have HK := Lib.hid hkp
          clear hkp
          have c3 := HF2.out.hb.cell 259 (nd_kids _ _ _ _ _)
          rw [hll] at c3
          by_cases hlt : i < l.length
          · obtain rfl := HF2.out.ha (by omega)
            obtain ⟨-, hpk, hrow⟩ := HF2.out.hk (by omega)
            have hpl := HF2.out.hpl
            have ck := hrow.cell i (by omega)
            have hrn := HF2.out.drew.hn i (by omega)
            rw [HL.out i hlt, if_neg (Nat.lt_irrefl i)] at hrn
            have hkid := HV.out.kid i hlt
            have hcall := HIH.out (SizeOf.sizeOf (l.getD i .empty)) (by have := HN.out; omega) _ (Nat.le_refl _) wr.drew (Ms i) _ hrn
            have hps := HF2.out.hs i (by omega)
            have HROW : Hid (∀ w3, Kept (Ms i) wr.drew w3 → Row w3 k ps' ∧ Blk w3 p' (ndCells kind hh mn mx (.slice (some ⟨k, 0, none⟩) l'.length c)) 68) := fun w3 hk3 =>
              ⟨(HF2.out.drew.hk (by omega)).2.2.kept hk3 fun e => (hps k e).2.2.1 rfl, HF2.out.drew.hb.kept hk3 fun e => (hps p' e).2.1 rfl⟩
            have HPL : Hid (i < ps'.length) := by show _ < _; omega
            have HLL := Lib.hid hll
            obtain ⟨pi, hpi⟩ : ∃ pi, ps'.getD i 0 = pi := ⟨_, rfl⟩
            obtain ⟨n, hn⟩ : ∃ n, l.getD i .empty = n := ⟨_, rfl⟩
            rw [hpi] at ck hcall
            rw [hn] at hcall
            have HPI := Lib.hid hpi
            have HNI := Lib.hid hn
            clear hrow hrn hps hpl hpi hn hkid
            go_wp2_with fail
            go_region_with ((go_at_call 31; refine hcall.mono ?_; rintro e w3 ⟨q, rfl, hq3, hk3⟩; have K0 : w3.cell? ⟨p', 259, none⟩ = some (.slice (some ⟨k, 0, none⟩) l.length c) := (by rw [← HLL.out]; exact (HROW.out w3 hk3).2.cell 259 (nd_kids _ _ _ _ _)); have K1 : w3.cell? ⟨k, i, none⟩ = some (.pointer (some ⟨pi, 0, none⟩)) := (by rw [← HPI.out]; exact (HROW.out w3 hk3).1.cell i HPL.out); have K2 : w3.frozen? ⟨k, i, none⟩ = false := (HROW.out w3 hk3).1.free i))
            all_goals
              have HQ3 := Lib.hid hq3
              have HK3 := Lib.hid hk3
              clear hq3 hk3 hcall K0 K1 K2 ck c3
              go_wp2_with fail
              have hst := HF2.out.drew.step (by omega) HK3.out HQ3.out
              refine ⟨⟨i + 1, l'.set i (strip n), ps'.set i q, by omega, by go_num, by rw [List.length_set]; exact hll, fun j hj => ?_, hst.1, HK.out.drew.trans (hst.2.mono fun b _ hb => HM.out b hb)⟩, ?_⟩
              · by_cases he : i = j
                · subst he
                  rw [if_pos (Nat.lt_succ_self i), HNI.out]
                  simp [List.getD_eq_getElem?_getD, hll, hlt]
                · have e2 : (l'.set i (strip n)).getD j .empty = l'.getD j .empty := by simp [List.getD_eq_getElem?_getD, List.getElem?_set_ne he]
                  rw [e2, HL.out j hj]
                  by_cases h1 : j < i
                  · rw [if_pos h1, if_pos (by omega)]
                  · rw [if_neg h1, if_neg (by omega)]
              · show l.length - ((i : Int) + 1).toNat < l.length - (i : Int).toNat
                omega
          · obtain rfl : i = l.length := by omega
            go_wp2_with fail
            go_ret
            refine ⟨p', rfl, ?_, HK.out⟩
            have e : l' = l.map strip := by
              refine List.ext_getElem (by rw [List.length_map]; exact hll) fun j h1 h2 => ?_
              have h3 := HL.out j (by omega)
              rw [if_pos (by omega)] at h3
              rw [List.getElem_map]
              simpa [List.getD_eq_getElem?_getD, List.getElem?_eq_getElem h1, List.getElem?_eq_getElem (show j < l.length by omega)] using h3
            have ht := Fam.tree HV.out hll HF2.out
            rw [e, ← HS2.out, HS.out] at ht
            exact ht.mono HM.out

end Go.Proofs.YthdkbbkkijdhfaaGreatDoor

/-
  The walk of the law's marks. Condition: the tree lies in memory, and the marks apart from it.
-/
namespace Go.Proofs.YthdkbbkkijdhfaaGreatDoor
open Go.RowKit Go.Shelf Go.Maps

mutual
/-- Which bytes are in an expression's sets. -/
def usedBy : Rx.Nd → Rx.Has
  | .set h => h
  | .cat l => usedBys l
  | .alt l => usedBys l
  | .rep _ _ k => usedBy k
  | .empty => fun _ => false
  | .beg => fun _ => false
  | .fin => fun _ => false
def usedBys : List Rx.Nd → Rx.Has
  | [] => fun _ => false
  | x :: r => fun c => usedBy x c || usedBys r c
end
mutual
/-- Has it an anchor? -/
def anch : Rx.Nd → Bool
  | .beg => true
  | .fin => true
  | .cat l => anchs l
  | .alt l => anchs l
  | .rep _ _ k => anch k
  | .empty => false
  | .set _ => false
def anchs : List Rx.Nd → Bool
  | [] => false
  | x :: r => anch x || anchs r
end
theorem usedBys_push (l : List Rx.Nd) (x : Rx.Nd) (c : UInt8) : usedBys (l ++ [x]) c = (usedBys l c || usedBy x c) := by
  induction l with
  | nil => simp [usedBys]
  | cons y r ih => simp only [List.cons_append, usedBys, ih, Bool.or_assoc]
theorem anchs_push (l : List Rx.Nd) (x : Rx.Nd) : anchs (l ++ [x]) = (anchs l || anch x) := by
  induction l with
  | nil => simp [anchs]
  | cons y r ih => simp only [List.cons_append, anchs, ih, Bool.or_assoc]

theorem View.used {t : Rx.Nd} {kind mn mx : Int} {h : Rx.Has} {l : List Rx.Nd} {mk : List Rx.Nd → Rx.Nd} (v : View t kind mn mx h l mk) : ∀ c, usedBy t c = (h c || usedBys l c) := by
  cases v <;> simp [usedBy, usedBys]
theorem View.anch_ {t : Rx.Nd} {kind mn mx : Int} {h : Rx.Has} {l : List Rx.Nd} {mk : List Rx.Nd → Rx.Nd} (v : View t kind mn mx h l mk) : anch t = ((kind == 2 || kind == 3) || anchs l) := by
  cases v <;> simp [anch, anchs]

/-- Marks in memory. -/
def hasArr (g : Rx.Has) : Array Value := (hasCells g).toArray
theorem arr_has (g : Rx.Has) (i : Nat) (hi : i < 256) : (hasArr g)[i]? = some (.bool (g (UInt8.ofNat i))) := by
  unfold hasArr hasCells
  rw [List.getElem?_toArray, List.getElem?_map, List.getElem?_range hi]
  rfl
theorem arr_set (g : Rx.Has) (i : Nat) (v : Bool) : (hasArr g).setIfInBounds i (.bool v) = hasArr (fun c => if c.toNat = i then v else g c) := by
  apply Array.ext'
  unfold hasArr
  rw [Array.toList_setIfInBounds]
  apply List.ext_getElem
  · simp [hasCells]
  · intro j h1 h2
    have h3 : j < 256 := by rw [hasCells_len] at h2; exact h2
    rw [List.getElem_set]
    simp only [hasCells, List.getElem_map, List.getElem_range]
    have e : (UInt8.ofNat j).toNat = j := by simp [UInt8.toNat_ofNat']; omega
    rw [e]
    by_cases hij : i = j
    · rw [if_pos hij, if_pos hij.symm]
    · rw [if_neg hij, if_neg (fun h => hij h.symm)]

def MarksC (t : Rx.Nd) : Prop := ∀ (w : World) (M : Nat → Prop) (p u : Nat) (g : Rx.Has) (ty : TypeId), RtIn w M p t → Blk w u (hasArr g) ty → ¬ M u →
  Calls Tryz.prog 12 #[.pointer (some ⟨p, 0, none⟩), .pointer (some ⟨u, 0, none⟩)] w fun e w' => e = .returned (.bool (anch t)) ∧ Blk w' u (hasArr fun c => g c || usedBy t c) ty ∧ Kept (· = u) w w'

set_option maxHeartbeats 6400000 in
set_option maxRecDepth 100000 in
theorem marks_any : ∀ (N : Nat) (t : Rx.Nd), SizeOf.sizeOf t ≤ N → MarksC t := by
  intro N
  induction N using Nat.strongRecOn with
  | ind N ih =>
  intro t hN w M p u g ty hp hu hMu
  obtain ⟨kind, mn, mx, hh, a, k, c, l, ps, Ms, mk, F, v⟩ := hp.view
  have c0 := F.hb.cell 0 (nd_kind _ _ _ _ _)
  have HUS := Lib.hid v.used
  have HAN := Lib.hid v.anch_
  have hlb := F.hl
  have hpl := F.hpl
  have HF := Lib.hid F
  have hpu : p ≠ u := fun e => hMu (e ▸ F.hp)
  have hkept : ∀ w', Kept (· = u) w w' → Fam w' M p kind mn mx hh a k c l ps Ms := fun w' hk => F.kept hk fun b hb e => hMu (e ▸ hb)
  have HFK := Lib.hid hkept
  have HIH : Hid (∀ i, i < l.length → ∀ w', Kept (· = u) w w' → ∀ g', Blk w' u (hasArr g') ty → Calls Tryz.prog 12 #[.pointer (some ⟨ps.getD i 0, 0, none⟩), .pointer (some ⟨u, 0, none⟩)] w' fun e w2 => e = .returned (.bool (anch (l.getD i .empty))) ∧ Blk w2 u (hasArr fun c => g' c || usedBy (l.getD i .empty) c) ty ∧ Kept (· = u) w' w2) := fun i hi w' hk g' hb =>
    ih (SizeOf.sizeOf (l.getD i .empty)) (by have := v.kid i hi; omega) _ (Nat.le_refl _) w' _ _ u g' ty ((hkept w' hk).hn i hi) hb fun e => hMu (F.hs i hi u e).1
  have HU := Lib.hid hu
  obtain ⟨AN, hAN⟩ : ∃ b, anch t = b := ⟨_, rfl⟩
  obtain ⟨US, hUS⟩ : ∃ f, usedBy t = f := ⟨_, rfl⟩
  rw [hAN] at HAN ⊢
  rw [hUS] at HUS ⊢
  clear ih hN hp F v hAN hUS hkept hu hMu
  go_enter Tryz.func12, Tryz.ntmps12
  go_upto_region 1 with fail
  go_cut [5, 9, 10, 11, 12, 13, 14, 15, 16, 17, 18, 19, 20] (fun s5 _s9 _s10 _s11 _s12 _s13 _s14 _s15 _s16 _s17 _s18 _s19 _s20 wx => s5 = .bool (kind == 2 || kind == 3) ∧ wx = w)
  case first =>
    by_cases h2 : kind = 2
    · subst h2
      go_wp2_with fail
      go_meet
      exact ⟨rfl, rfl⟩
    · have HK2 : Hid ((kind == 2) = false) := by show _ = _; simpa using h2
      go_wp2_with fail
      go_meet
      exact ⟨by rw [HK2.out]; rfl, rfl⟩
  case rest =>
    obtain ⟨rfl, rfl⟩ := hcut
    obtain ⟨A0, hA0⟩ : ∃ b, (kind == 2 || kind == 3) = b := ⟨_, rfl⟩
    rw [hA0] at HAN ⊢
    clear c0 hA0
    go_wp2_with fail
    go_loopw [6] (fun x6 wr => ∃ j : Nat, j ≤ 256 ∧ x6 = .int .i64 j ∧ Hid (Blk wr u (hasArr fun e => g e || (decide (e.toNat < j) && hh e)) ty) ∧ Hid (Kept (· = u) wc wr)) (fun x6 _ => 256 - (intOf x6).toNat)
    case atStart =>
      refine ⟨0, Nat.zero_le _, rfl, ?_, Kept.refl _ _⟩
      show Blk _ _ _ _
      have e : (fun e : UInt8 => g e || (decide (e.toNat < 0) && hh e)) = g := by funext e; simp
      rw [e]
      exact HU.out
    case round =>
      obtain ⟨j, hj, rfl, HB, HK⟩ := hrel
      by_cases hlt : j < 256
      · have x0 := HB.out.cell j (arr_has _ j hlt)
        have f0 := HB.out.free j
        have n0 := (HFK.out wr HK.out).hb.cell (1 + j) (nd_has _ _ _ _ _ j hlt)
        obtain ⟨U, hU⟩ : ∃ U, (g (UInt8.ofNat j) || (decide ((UInt8.ofNat j).toNat < j) && hh (UInt8.ofNat j))) = U := ⟨_, rfl⟩
        obtain ⟨V, hV⟩ : ∃ V, hh (UInt8.ofNat j) = V := ⟨_, rfl⟩
        rw [hU] at x0
        rw [hV] at n0
        have HST : Hid (Blk (wr.setCell ⟨u, j, none⟩ (.bool (U || V))) u (hasArr fun e => g e || (decide (e.toNat < j + 1) && hh e)) ty ∧ Kept (· = u) wc (wr.setCell ⟨u, j, none⟩ (.bool (U || V)))) := by
          refine ⟨?_, HK.out.setCell (.inl rfl) j _⟩
          have h5 := HB.out.set j (.bool (U || V))
          rw [arr_set] at h5
          have e : (fun e : UInt8 => if e.toNat = j then (U || V) else g e || (decide (e.toNat < j) && hh e)) = fun e => g e || (decide (e.toNat < j + 1) && hh e) := by
            funext e
            by_cases he : e.toNat = j
            · have e2 : UInt8.ofNat j = e := by rw [← he]; simp
              rw [if_pos he, ← hU, ← hV, e2, show decide (e.toNat < j) = false by simp; omega, show decide (e.toNat < j + 1) = true by simp; omega]
              simp
            · rw [if_neg he]
              have h2 : decide (e.toNat < j + 1) = decide (e.toNat < j) := by congr 1; apply propext; omega
              rw [h2]
          rw [e] at h5
          exact h5
        clear hU hV
        go_wp2_with fail
        cases U <;> cases V <;> go_region <;> go_wp2_with fail
        all_goals
          refine ⟨⟨j + 1, by omega, by go_num, HST.out.1.drew, HST.out.2.drew⟩, ?_⟩
          show 256 - ((j : Int) + 1).toNat < 256 - (j : Int).toNat
          omega
      · have hj256 : j = 256 := by omega
        have hge : ¬ ((j : Int) < 256) := by omega
        obtain ⟨g2, hg2⟩ : ∃ f, (fun e : UInt8 => g e || hh e) = f := ⟨_, rfl⟩
        have HB2 : Hid (Blk wr u (hasArr g2) ty) := by
          have := HB.out
          rw [hj256] at this
          have e : (fun e : UInt8 => g e || (decide (e.toNat < 256) && hh e)) = g2 := by
            rw [← hg2]
            funext e
            rw [decide_eq_true (show e.toNat < 256 from e.toNat_lt), Bool.true_and]
          rw [e] at this
          exact this
        have HG2 := Lib.hid hg2
        clear hg2 hj hlt hj256
        go_wp2_with fail
        go_loopw [5, 7, 8] (fun x5 x7 _x8 wq => ∃ i : Nat, i ≤ l.length ∧ x7 = .int .i64 i ∧ x5 = .bool (A0 || anchs (l.take i)) ∧ Hid (Blk wq u (hasArr fun e => g2 e || usedBys (l.take i) e) ty) ∧ Hid (Kept (· = u) wc wq)) (fun _ x7 _ _ => l.length - (intOf x7).toNat)
        case atStart =>
          refine ⟨0, Nat.zero_le _, rfl, by simp [anchs], ?_, HK.out⟩
          show Blk _ _ _ _
          have e : (fun e : UInt8 => g2 e || usedBys (l.take 0) e) = g2 := by funext e; simp [usedBys]
          rw [e]
          exact HB2.out
        case round =>
          obtain ⟨i, hi, rfl, rfl, HB3, HK3⟩ := hrel
          have c3 := (HFK.out _ HK3.out).hb.cell 259 (nd_kids _ _ _ _ _)
          by_cases hlt : i < l.length
          · obtain rfl := HF.out.ha (by omega)
            have ck := ((HFK.out _ HK3.out).hk (by omega)).2.2.cell i (by omega)
            have hcall := HIH.out i hlt _ HK3.out _ HB3.out
            have HT : Hid (l.take (i + 1) = l.take i ++ [l.getD i .empty]) := by
              show _ = _
              rw [List.take_succ_eq_append_getElem hlt]
              simp [List.getD_eq_getElem?_getD, List.getElem?_eq_getElem hlt]
            generalize l.getD i .empty = x at *
            generalize ps.getD i 0 = q at *
            obtain ⟨A1, hA1⟩ : ∃ b, (A0 || anchs (l.take i)) = b := ⟨_, rfl⟩
            obtain ⟨A2, hA2⟩ : ∃ b, anch x = b := ⟨_, rfl⟩
            have HA3 : Hid ((A0 || anchs (l.take (i + 1))) = (A1 || A2)) := by
              show _ = _
              rw [HT.out, anchs_push, ← hA1, ← hA2, Bool.or_assoc]
            rw [hA1]
            rw [hA2] at hcall
            clear hA1 hA2
            go_wp2_with fail
            refine hcall.mono ?_
            rintro e w5 ⟨rfl, hb5, hk5⟩
            have HB5 : Hid (Blk w5 u (hasArr fun e => g2 e || usedBys (l.take (i + 1)) e) ty) := by
              show Blk _ _ _ _
              have e : (fun e : UInt8 => g2 e || usedBys (l.take (i + 1)) e) = fun e => g2 e || usedBys (l.take i) e || usedBy x e := by
                funext e
                rw [HT.out, usedBys_push, Bool.or_assoc]
              rw [e]
              exact hb5
            have HK5 := Lib.hid (HK3.out.trans hk5)
            clear hb5 hk5 hcall ck c3
            cases A1
            all_goals go_wp2_with fail
            all_goals
              refine ⟨⟨i + 1, by omega, by go_num, by rw [HA3.out]; rfl, HB5.out, HK5.out⟩, ?_⟩
              show l.length - ((i : Int) + 1).toNat < l.length - (i : Int).toNat
              omega
          · obtain rfl : i = l.length := by omega
            rw [List.take_of_length_le (Nat.le_refl _)] at HB3 ⊢
            rw [← HAN.out]
            go_wp2_with fail
            go_ret
            refine ⟨rfl, ?_, HK3.out⟩
            have e : (fun c : UInt8 => g c || US c) = fun e => g2 e || usedBys l e := by
              rw [← HG2.out]
              funext e
              rw [HUS.out, Bool.or_assoc]
            rw [e]
            exact HB3.out

end Go.Proofs.YthdkbbkkijdhfaaGreatDoor
